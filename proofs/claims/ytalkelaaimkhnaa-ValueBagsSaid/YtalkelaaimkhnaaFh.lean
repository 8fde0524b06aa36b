/- Part 8 of 11 of what the statement leans on. Proved: gatepostlaw02.ValueBags returns true for every input, and the input reads behind the call as it read before; condition: none but the row's own cells. -/
import Derived.Test.YtalkelaaimkhnaaFg
import Derived.Orders
import Derived.LoopN
import Derived.KernelRfl
import Derived.ChangeSame
import Derived.OpenShut
import Derived.WideKeyArgs
import Derived.RowKit
set_option linter.all false
section
/- Which operations may change places, V: the rest. -/
namespace Go.Fw
variable {Ω : Type} {Γ : Orc Ω} {d : Option Nat} {g : Option (Nat × Bool)}

theorem look_insAll_congr {k : Nat} : ∀ {ws s s2 : List (Nat × PV)}, look s k = look s2 k → look (insAll ws s) k = look (insAll ws s2) k
  | [], _, _, h => h
  | (j, v) :: ws, s, s2, h => by
    simp only [insAll]
    refine look_insAll_congr ?_
    rw [look_ins, look_ins, h]

/-- 'putR', behind other writes. -/
theorem putR_eff {st st' : FS Ω} {ws : List (Nat × PV)} {L : Fr Ω} {S : List (Fr Ω)} {v : PV} (h : ({ st with sl := insAll ws st.sl, L := L, S := S } : FS Ω).putR d v = some st') :
    st' = { st with sl := insAll (ws ++ wput d v) st.sl, L := L, S := S } ∧ ∀ (st2 : FS Ω) (L2 : Fr Ω) (S2 : List (Fr Ω)), (∀ k, d = some k → look st.sl k = look st2.sl k) →
      ({ st2 with sl := insAll ws st2.sl, L := L2, S := S2 } : FS Ω).putR d v = some { st2 with sl := insAll (ws ++ wput d v) st2.sl, L := L2, S := S2 } := by
  cases d with
  | none =>
    simp only [FS.putR, Option.some.injEq] at h
    refine ⟨by rw [← h]; simp [wput], fun st2 L2 S2 _ => by simp [FS.putR, wput]⟩
  | some d =>
    simp only [FS.putR] at h
    split at h
    · rename_i hc
      simp only [Option.some.injEq] at h
      refine ⟨by rw [← h, insAll_append]; rfl, fun st2 L2 S2 ha => ?_⟩
      simp only [FS.putR]
      rw [if_pos, insAll_append]
      · rfl
      · rw [← noAl_congr (look_insAll_congr (ha d rfl))]; exact hc
    · cases h

theorem l_app {src : Option Src} {z bytes : Nat} {x y : Opd} : LocalOp Γ d (.app src z bytes x y) g := by
  intro st st' h
  have hfoot : ∀ {ws : List (Nat × PV)} {v : PV}, (∀ p ∈ ws, ∃ q ∈ losesOf (.app src z bytes x y), q = .t p.1) → ∀ p ∈ ws ++ wput d v, p.1 ∈ footW ⟨d, .app src z bytes x y, g⟩ := by
    intro ws v hw p hp
    rcases List.mem_append.1 hp with hp | hp
    · obtain ⟨q, hq, e⟩ := hw p hp
      simp only [footW, List.mem_append]
      exact .inr (slotsOf_mem.2 (by rw [← e]; exact hq))
    · exact wput_foot p hp
  have hdst : ∀ {st2 : FS Ω}, Agree ⟨d, .app src z bytes x y, g⟩ st st2 → ∀ k, d = some k → look st.sl k = look st2.sl k := by
    rintro st2 ha k rfl; exact agree_dst ha
  simp only [stepOp] at h
  split at h
  · rename_i f z1 es f2 z2 fs e1 e2
    split at h
    · rename_i hc
      have step2 : ∀ st2 : FS Ω, Agree ⟨d, .app src z bytes x y, g⟩ st st2 → st2.rd x = .sl f z1 es ∧ st2.rd y = .sl f2 z2 fs := by
        intro st2 ha
        cases src with
        | none => exact ⟨by rw [← agree_rd ha x (by simp [opdsOf]), e1], by rw [← agree_rd ha y (by simp [opdsOf]), e2]⟩
        | some s => cases s <;> exact ⟨by rw [← agree_rd ha x (by simp [opdsOf]), e1], by rw [← agree_rd ha y (by simp [opdsOf]), e2]⟩
      split at h
      · -- nil, no source
        obtain ⟨h1, h2⟩ := putR_eff (st := st) (ws := []) (L := st.L) (S := st.S) h
        refine ⟨⟨[] ++ wput d (.sl .own z (es ++ fs)), .keep, false⟩, fits_iff.2 ⟨hfoot (by simp), by simp, rfl⟩, by rw [h1]; exact app_eq rfl rfl rfl (by simp), fun st2 ha => ?_⟩
        obtain ⟨k1, k2⟩ := step2 st2 ha
        simp only [stepOp, k1, k2, if_pos hc]
        refine Eq.trans (h2 st2 st2.L st2.S (hdst ha)) ?_
        congr 1
        exact app_eq rfl rfl rfl (by simp)
      · -- nil, a source
        rename_i s
        split at h
        · cases h
        · rename_i hdi
          obtain ⟨h1, h2⟩ := putR_eff (st := st) (ws := []) (L := st.L) (S := st.S) h
          refine ⟨⟨[] ++ wput d (.sl .own z (es ++ fs)), .all st.L st.S, false⟩, fits_iff.2 ⟨hfoot (by simp), by simp, trivial⟩, by rw [h1]; exact app_eq rfl rfl rfl (by simp), fun st2 ha => ?_⟩
          obtain ⟨k1, k2⟩ := step2 st2 ha
          have hdd := ha.2.1 rfl
          have hLS : st.L = st2.L ∧ st.S = st2.S := ha.2.2
          simp only [stepOp, k1, k2, if_pos hc]
          rw [if_neg (by rw [← hdd]; exact hdi)]
          have := h2 st2 st2.L st2.S (hdst ha)
          refine Eq.trans this ?_
          congr 1
          exact app_eq rfl hLS.1.symm hLS.2.symm (by simp)
      · -- own
        obtain ⟨h1, h2⟩ := putR_eff (st := st) (ws := wlose st x) (L := st.L) (S := st.S) (by rw [← lose_app]; exact h)
        refine ⟨⟨wlose st x ++ wput d (.sl .own z (es ++ fs)), .keep, false⟩, fits_iff.2 ⟨hfoot fun p hp => ⟨x, by simp [losesOf], wlose_key p hp⟩, by simp, rfl⟩, by rw [h1]; exact app_eq rfl rfl rfl (by simp), fun st2 ha => ?_⟩
        obtain ⟨k1, k2⟩ := step2 st2 ha
        simp only [stepOp, k1, k2, if_pos hc]
        rw [lose_app, wlose_congr (agree_look ha (by simp [opdsOf]))]
        refine Eq.trans (h2 st2 st2.L st2.S (hdst ha)) ?_
        congr 1
        exact app_eq rfl rfl rfl (by simp)
      · -- alias of a slot
        rename_i t1 t2
        split at h
        · rename_i hcond
          have ht : t1 = t2 := by simp only [Bool.and_eq_true] at hcond; exact Nat.eq_of_beq_eq_true hcond.1.1
          subst ht
          obtain ⟨h1, h2⟩ := putR_eff (st := st) (ws := wlose st (.t t1)) (L := st.L) (S := st.S) (by rw [← lose_app]; exact h)
          refine ⟨⟨wlose st (.t t1) ++ wput d (.sl .own z (es ++ fs)), .all st.L st.S, false⟩, fits_iff.2 ⟨hfoot fun p hp => ⟨.t t1, by simp [losesOf], wlose_key p hp⟩, by simp, trivial⟩, by rw [h1]; exact app_eq rfl rfl rfl (by simp), fun st2 ha => ?_⟩
          obtain ⟨k1, k2⟩ := step2 st2 ha
          have hdd := ha.2.1 rfl
          have hLS : st.L = st2.L ∧ st.S = st2.S := ha.2.2
          have hr := agree_rd ha (.t t1) (by simp [opdsOf])
          simp only [stepOp, k1, k2, if_pos hc]
          rw [← hdd, ← hr, if_pos hcond]
          have := h2 st2 st2.L st2.S (hdst ha)
          rw [lose_app, wlose_congr (agree_look ha (by simp [opdsOf]))]
          refine Eq.trans this ?_
          congr 1
          exact app_eq rfl hLS.1.symm hLS.2.symm (by simp)
        · cases h
      · -- alias of a cell
        rename_i k off _ _
        split at h
        · cases h
        · rename_i hdi
          split at h
          · rename_i cs hl
            split at h
            · rename_i z' es' hcs
              split at h
              · rename_i hzz
                obtain ⟨h1, h2⟩ := putR_eff (st := st) (ws := []) (L := ins st.L k (.box (cs.set off (.sl .no z' es')))) (S := st.S) h
                refine ⟨⟨[] ++ wput d (.sl .own z (es ++ fs)), .all (ins st.L k (.box (cs.set off (.sl .no z' es')))) st.S, false⟩, fits_iff.2 ⟨hfoot (by simp), by simp, trivial⟩, by rw [h1]; exact app_eq rfl rfl rfl (by simp), fun st2 ha => ?_⟩
                obtain ⟨k1, k2⟩ := step2 st2 ha
                have hdd := ha.2.1 rfl
                have hLS : st.L = st2.L ∧ st.S = st2.S := ha.2.2
                simp only [stepOp, k1, k2, if_pos hc]
                rw [if_neg (by rw [← hdd]; exact hdi), ← hLS.1, hl]
                simp only [hcs, if_pos hzz]
                have := h2 st2 (ins st.L k (.box (cs.set off (.sl .no z' es')))) st2.S (hdst ha)
                refine Eq.trans this ?_
                congr 1
                exact app_eq rfl rfl hLS.2.symm (by simp)
              · cases h
            · cases h
          · cases h
      · -- alias of a cell of an outer box
        rename_i e k off _ _
        split at h
        · cases h
        · rename_i hdi
          split at h
          · rename_i F hF
            split at h
            · rename_i cs hl
              split at h
              · rename_i z' es' hcs
                split at h
                · rename_i hzz
                  obtain ⟨h1, h2⟩ := putR_eff (st := st) (ws := []) (L := st.L) (S := st.S.set e (ins F k (.box (cs.set off (.sl .no z' es'))))) h
                  refine ⟨⟨[] ++ wput d (.sl .own z (es ++ fs)), .all st.L (st.S.set e (ins F k (.box (cs.set off (.sl .no z' es'))))), false⟩, fits_iff.2 ⟨hfoot (by simp), by simp, trivial⟩, by rw [h1]; exact app_eq rfl rfl rfl (by simp), fun st2 ha => ?_⟩
                  obtain ⟨k1, k2⟩ := step2 st2 ha
                  have hdd := ha.2.1 rfl
                  have hLS : st.L = st2.L ∧ st.S = st2.S := ha.2.2
                  simp only [stepOp, k1, k2, if_pos hc]
                  rw [if_neg (by rw [← hdd]; exact hdi), ← hLS.2, hF]
                  simp only [hl, hcs, if_pos hzz]
                  have := h2 st2 st2.L (st.S.set e (ins F k (.box (cs.set off (.sl .no z' es'))))) (hdst ha)
                  refine Eq.trans this ?_
                  congr 1
                  exact app_eq rfl hLS.1.symm rfl (by simp)
                · cases h
              · cases h
            · cases h
          · cases h
      · cases h
    · cases h
  · cases h
end Go.Fw
end
section
/- Which operations may change places, VI: stores, calls; all. -/
namespace Go.Fw
variable {Ω : Type} {Γ : Orc Ω} {d : Option Nat} {g : Option (Nat × Bool)}

/-- A store, taken apart. -/
theorem storeV_eff {st st' : FS Ω} {n : Option Nat} {a x : Opd} (h : st.storeV n a x = some st') :
    ∃ ws, (∀ p ∈ ws, x = .t p.1) ∧ (∃ L S, st' = { sl := insAll ws st.sl, L := L, S := S, dirty := true } ∧
      (∀ k o, st.rd a = .own k o → ∃ c, S = st.S ∧ L = ins st.L k c ∧ ∀ st2 : FS Ω, st.rd a = st2.rd a → st.rd x = st2.rd x → (∀ j, x = .t j → look st.sl j = look st2.sl j) → look st.L k = look st2.L k →
        st2.storeV n a x = some { sl := insAll ws st2.sl, L := ins st2.L k c, S := st2.S, dirty := true }) ∧
      ∀ st2 : FS Ω, st.rd a = st2.rd a → st.rd x = st2.rd x → (∀ j, x = .t j → look st.sl j = look st2.sl j) → st.L = st2.L → st.S = st2.S →
        st2.storeV n a x = some { sl := insAll ws st2.sl, L := L, S := S, dirty := true }) := by
  unfold FS.storeV at h
  simp only at h
  split at h
  · rename_i cs off src vs hb hc
    split at h
    · rename_i hcond
      split at h
      · rename_i st3 h3
        simp only [Option.some.injEq] at h
        let ws := if (n.isNone && isOwn (st.rd x)) = true then wlose st x else []
        have hws : ∀ p ∈ ws, x = .t p.1 := by
          intro p hp
          show x = _
          simp only [ws] at hp
          split at hp
          · exact wlose_key p hp
          · cases hp
        have hl : (if (n.isNone && isOwn (st.rd x)) = true then st.lose x else st) = { st with sl := insAll ws st.sl } := by
          simp only [ws]
          split
          · exact lose_app st x
          · rfl
        have hl2 : ∀ st2 : FS Ω, st.rd x = st2.rd x → (∀ j, x = .t j → look st.sl j = look st2.sl j) → (if (n.isNone && isOwn (st2.rd x)) = true then st2.lose x else st2) = { st2 with sl := insAll ws st2.sl } := by
          intro st2 h1 h2
          simp only [ws]
          rw [← h1]
          split
          · rw [lose_app, wlose_congr h2]
          · rfl
        rw [hl] at h3
        refine ⟨ws, hws, st3.L, st3.S, ?_, ?_, ?_⟩
        · rw [← h]
          have : st3.sl = insAll ws st.sl := by
            generalize st.rd a = p at h3
            cases p <;> simp only [FS.setBox] at h3 <;> first | (cases h3; done) | skip
            · simp only [Option.some.injEq] at h3; rw [← h3]
            · split at h3
              · simp only [Option.some.injEq] at h3; rw [← h3]
              · cases h3
          rw [this]
        · intro k o hk
          rw [hk] at h3 hb
          simp only [FS.setBox, Option.some.injEq] at h3
          refine ⟨_, by rw [← h3], by rw [← h3], fun st2 h1 h2 h4 h5 => ?_⟩
          unfold FS.storeV
          simp only
          have hb2 : st2.box? (st2.rd a) = some (cs, off, src) := by
            rw [← h1, hk]
            simp only [FS.box?] at hb ⊢
            rw [← h5]; exact hb
          rw [hb2, ← h2, hc]
          simp only
          rw [← h1, if_pos hcond]
          have := hl2 st2 h2 h4
          rw [← h2] at this
          rw [this, hk]
          rfl
        · intro st2 h1 h2 h4 hL hS
          unfold FS.storeV
          simp only
          have hb2 : st2.box? (st2.rd a) = some (cs, off, src) := by
            rw [← h1, boxq_congr hS (fun k _ _ => by rw [hL])]; exact hb
          rw [hb2, ← h2, hc]
          simp only
          rw [← h1, if_pos hcond]
          have := hl2 st2 h2 h4
          rw [← h2] at this
          rw [this]
          generalize st.rd a = p at h3
          cases p <;> simp only [FS.setBox] at h3 <;> first | (cases h3; done) | skip
          · simp only [Option.some.injEq] at h3
            simp only [FS.setBox]
            rw [← h3, ← hL, ← hS]
          · simp only [FS.setBox]
            rw [← hS]
            split at h3
            · rename_i F hF
              simp only [Option.some.injEq] at h3
              simp only [hF]
              rw [← h3, ← hL]
            · cases h3
      · cases h
    · cases h
  · cases h

theorem l_store {n : Option Nat} {a x : Opd} : LocalOp Γ d (.store n a x) g := by
  intro st st' h
  have h : st.storeV n a x = some st' := h
  obtain ⟨ws, hws, L, S, h1, _, h2⟩ := storeV_eff h
  refine ⟨⟨ws, .all L S, true⟩, fits_iff.2 ⟨fun p hp => ?_, fun _ => rfl, trivial⟩, by rw [h1]; exact app_eq rfl rfl rfl (by simp), fun st2 ha => ?_⟩
  · simp only [footW, List.mem_append]
    exact .inr (slotsOf_mem.2 (by rw [← hws p hp]; simp [losesOf]))
  · have hLS : st.L = st2.L ∧ st.S = st2.S := ha.2.2
    show st2.storeV n a x = _
    rw [h2 st2 (agree_rd ha a (by simp [opdsOf])) (agree_rd ha x (by simp [opdsOf])) (agree_look ha (by simp [opdsOf])) hLS.1 hLS.2]
    congr 1
    exact app_eq rfl rfl rfl (by simp)

theorem l_storek {k : Nat} {n : Option Nat} {a x : Opd} : LocalOp Γ d (.storek k n a x) g := by
  intro st st' h
  have h : (if atBox k (st.rd a) then st.storeV n a x else none) = some st' := h
  split at h
  · rename_i hat
    obtain ⟨o, ho⟩ : ∃ o, st.rd a = .own k o := by
      generalize st.rd a = p at hat
      cases p with
      | own j o => rw [← Nat.eq_of_beq_eq_true hat]; exact ⟨o, rfl⟩
      | _ => cases hat
    obtain ⟨ws, hws, L, S, h1, h3, _⟩ := storeV_eff h
    obtain ⟨c, hS, hL, h2⟩ := h3 k o ho
    subst hS hL
    refine ⟨⟨ws, .put k c, true⟩, fits_iff.2 ⟨fun p hp => ?_, fun _ => rfl, .inr ⟨c, rfl⟩⟩, by rw [h1]; exact app_eq rfl rfl rfl (by simp), fun st2 ha => ?_⟩
    · simp only [footW, List.mem_append]
      exact .inr (slotsOf_mem.2 (by rw [← hws p hp]; simp [losesOf]))
    · have hr := agree_rd ha a (by simp [opdsOf])
      show (if atBox k (st2.rd a) then st2.storeV n a x else none) = _
      rw [← hr, if_pos hat, h2 st2 hr (agree_rd ha x (by simp [opdsOf])) (agree_look ha (by simp [opdsOf])) ha.2.2]
      congr 1
      exact app_eq rfl rfl rfl (by simp)
  · cases h

theorem l_xcall {op : IOp} {F : FS Ω → Option (Nat × List PV)} (he : ∀ st, stepOp Γ ⟨d, op, g⟩ st = (F st).bind fun p => st.xcall Γ d p.1 p.2) (hF : ∀ st st2, (∀ x ∈ opdsOf op, st.rd x = st2.rd x) → F st2 = F st)
    (hc : clsOf ⟨d, op, g⟩ = .any) (hd : dwOf ⟨d, op, g⟩ = true) : LocalOp Γ d op g := by
  intro st st' h
  rw [he, Option.bind_eq_some_iff] at h
  obtain ⟨⟨f, vs⟩, hp, h⟩ := h
  simp only [FS.xcall] at h
  rw [Option.bind_eq_some_iff] at h
  obtain ⟨r, hr, h⟩ := h
  rw [Option.bind_eq_some_iff] at h
  obtain ⟨L', hL', h⟩ := h
  split at h
  · rename_i hck
    obtain ⟨v, m, hm, h1, h2⟩ := homed_eff h
    refine ⟨⟨wput d v, .all (m.L L') (m.S (r.2.2.take st.S.length)), true⟩, fits_iff.2 ⟨wput_foot, fun _ => hd, by rw [hc]; trivial⟩, by rw [h1]; exact app_eq rfl rfl rfl (by show (true || false) = _; simp), fun st2 ha => ?_⟩
    have hLS := ha.2.2
    rw [hc] at hLS
    have hLS : st.L = st2.L ∧ st.S = st2.S := hLS
    rw [he, hF st st2 (agree_rd ha), hp, Option.bind_some]
    simp only [FS.xcall]
    rw [← hLS.1, ← hLS.2, hr, Option.bind_some, hL', Option.bind_some, if_pos hck]
    rw [h2 _ (by rintro k rfl; exact ⟨(show look st.sl k = look st2.sl k from agree_dst ha), rfl⟩)]
    congr 1
    exact app_eq rfl rfl rfl (by show (true || false) = _; simp)
  · cases h

theorem l_callr {f : Nat} {as : List Opd} : LocalOp Γ d (.callr f as) g := by
  intro st st' h
  have h : st.rcall Γ d f (canons (as.map st.rd)) = some st' := h
  simp only [FS.rcall] at h
  rw [Option.bind_eq_some_iff] at h
  obtain ⟨r, hr, h⟩ := h
  split at h
  · rename_i ho
    have hm : ∀ {s s' : FS Ω}, s.homed d r.1 none = some s' → s' = s.put d r.1 := by
      intro s s' h
      simp only [FS.homed] at h
      split at h
      · cases d with
        | none => simp only [FS.putR, Option.some.injEq] at h; exact h.symm
        | some d =>
          simp only [FS.putR] at h
          split at h
          · simp only [Option.some.injEq] at h; exact h.symm
          · cases h
      · cases h
    have e1 := hm h
    refine ⟨⟨wput d r.1, .keep, true⟩, fits_iff.2 ⟨wput_foot, fun _ => rfl, rfl⟩, ?_, fun st2 ha => ?_⟩
    · rw [e1, put_app]; exact app_eq rfl rfl rfl (by show (true || false) = _; simp)
    · have hLS : st.L = st2.L ∧ st.S = st2.S := ha.2.2
      show st2.rcall Γ d f (canons (as.map st2.rd)) = _
      simp only [FS.rcall]
      rw [← map_rd (l := as) (agree_rd ha), ← hLS.1, ← hLS.2, hr, Option.bind_some, ho]
      simp only [FS.homed] at h ⊢
      split at h
      · rename_i hpf
        rw [if_pos hpf]
        cases d with
        | none =>
          simp only [FS.putR, Option.some.injEq]
          exact app_eq rfl hLS.1 hLS.2 (by show true = _; simp)
        | some d =>
          simp only [FS.putR] at h ⊢
          rw [← noAl_congr (agree_dst ha)]
          split at h
          · rename_i hcond
            rw [if_pos hcond]
            congr 1
            exact app_eq rfl hLS.1 hLS.2 (by show true = _; simp)
          · cases h
      · cases h
  · cases h

theorem localOp_all (Γ : Orc Ω) (d : Option Nat) (op : IOp) (g : Option (Nat × Bool)) : LocalOp Γ d op g := by
  cases op with
  | asg x => exact l_asg
  | box n x => exact l_box
  | zalloc cs => exact l_zalloc
  | bslice z one es => exact l_bslice
  | load n a => exact l_load
  | loadx av n a => exact l_loadx
  | store n a x => exact l_store
  | storek k n a x => exact l_storek
  | s2b x => exact l_s2b
  | app src z bytes x y => exact l_app
  | call f as => exact l_qcall (F := fun st => some (f, canons (as.map st.rd))) (fun st => rfl) (fun st st2 h => by show some (f, canons (as.map st2.rd)) = _; rw [← map_rd (l := as) h]) rfl
  | callx f as => exact l_xcall (F := fun st => some (f, canons (as.map st.rd))) (fun st => rfl) (fun st st2 h => by show some (f, canons (as.map st2.rd)) = _; rw [← map_rd (l := as) h]) rfl rfl
  | callr f as => exact l_callr
  | callv x as =>
    refine l_qcall (F := fun st => match st.rd x with | .clo f first caps => some (f, canons (first ++ as.map st.rd ++ caps)) | _ => none) (fun st => ?_) (fun st st2 h => ?_) rfl
    · simp only [stepOp]; cases st.rd x <;> rfl
    · simp only [opdsOf, List.mem_cons, forall_eq_or_imp] at h
      show (match st2.rd x with | .clo f first caps => some (f, canons (first ++ as.map st2.rd ++ caps)) | _ => none) = _
      rw [← h.1, ← map_rd (l := as) h.2]
  | callvx x as =>
    refine l_xcall (F := fun st => match st.rd x with | .clo f first caps => some (f, canons (first ++ as.map st.rd ++ caps)) | _ => none) (fun st => ?_) (fun st st2 h => ?_) rfl rfl
    · simp only [stepOp]; cases st.rd x <;> rfl
    · simp only [opdsOf, List.mem_cons, forall_eq_or_imp] at h
      show (match st2.rd x with | .clo f first caps => some (f, canons (first ++ as.map st2.rd ++ caps)) | _ => none) = _
      rw [← h.1, ← map_rd (l := as) h.2]
  | _ => exact local_pure (fun st => rfl) rfl

theorem local_all (Γ : Orc Ω) (o : IOper) : Local Γ o := by
  obtain ⟨d, op, g⟩ := o
  have hop := localOp_all Γ d op g
  cases g with
  | none => exact hop
  | some jw =>
    obtain ⟨j, want⟩ := jw
    intro st st' h
    have hput : ∀ st st' : FS Ω, st.put d (.sc Go.undef) = st' → Fits ⟨d, op, some (j, want)⟩ (⟨wput d (.sc Go.undef), .keep, false⟩ : Eff Ω) ∧ st' = (⟨wput d (.sc Go.undef), .keep, false⟩ : Eff Ω).app st := by
      rintro st st' rfl
      refine ⟨fits_iff.2 ⟨wput_foot, by simp, ?_⟩, put_app d _ st⟩
      show mfits (clsOf _) MEff.keep
      cases clsOf ⟨d, op, some (j, want)⟩ <;> first | exact rfl | exact .inl rfl | trivial
    have hj : ∀ st2 : FS Ω, Agree ⟨d, op, some (j, want)⟩ st st2 → getS st2.sl j = getS st.sl j := fun st2 ha => getS_look (ha.1 j (by simp [footR])).symm
    simp only [stepG] at h
    generalize hq : getS st.sl j = q at h
    cases q with
    | sc v =>
      have hnb : (∀ b, v ≠ .bool b) → some (st.put d (.sc Go.undef)) = some st' → ∃ e : Eff Ω, Fits ⟨d, op, some (j, want)⟩ e ∧ st' = e.app st ∧ ∀ st2, Agree ⟨d, op, some (j, want)⟩ st st2 → stepG Γ ⟨d, op, some (j, want)⟩ st2 = some (e.app st2) := by
        intro hv h
        simp only [Option.some.injEq] at h
        obtain ⟨h1, h2⟩ := hput st st' h
        refine ⟨_, h1, h2, fun st2 ha => ?_⟩
        simp only [stepG]
        rw [hj st2 ha, hq]
        cases v <;> first | (exact absurd rfl (hv _)) | (simp only [put_app])
      cases v with
      | bool b =>
        simp only at h
        split at h
        · rename_i hb
          obtain ⟨e, h1, h2, h3⟩ := hop st st' h
          refine ⟨e, h1, h2, fun st2 ha => ?_⟩
          simp only [stepG]
          rw [hj st2 ha, hq]
          simp only [if_pos hb]
          exact h3 st2 ha
        · rename_i hb
          simp only [Option.some.injEq] at h
          obtain ⟨h1, h2⟩ := hput st st' h
          refine ⟨_, h1, h2, fun st2 ha => ?_⟩
          simp only [stepG]
          rw [hj st2 ha, hq]
          simp only [if_neg hb, put_app]
      | _ => exact hnb (by intro b h; cases h) h
    | _ => cases h
end Go.Fw
end
section
/- Regions. -/
namespace Go.Fw
variable {Ω : Type} {O : OpqSem Ω} {N : Nat} {P : Program} {RO : Nat → Bool} {Γ : Orc Ω}

def sameBool : Bool → Bool → Bool
  | true, true | false, false => true
  | _, _ => false
theorem sameBool_eq {a b : Bool} (h : sameBool a b = true) : a = b := by cases a <;> cases b <;> first | rfl | cases h

def chkG (ops : Array Oper) (N : Nat) (o : Oper) (io : IOper) : Bool :=
  match o.guard, io.g with
  | none, none => true
  | some (j, w), some (s, w') => sameBool w w' && (match ops[j]? with
    | some oj => (match oj.dst with
      | some d => Nat.beq d s && Nat.blt s N
      | none => false)
    | none => false)
  | _, _ => false

def chkOpers (P : Program) (RO : Nat → Bool) (N : Nat) (ops : Array Oper) : List Oper → List IOper → Bool
  | [], [] => true
  | o :: os, io :: ios => chkOp P RO N o io && (chkG ops N o io && chkOpers P RO N ops os ios)
  | _, _ => false

theorem chkOpers_get {ops : Array Oper} : ∀ {os : List Oper} {ios : List IOper}, chkOpers P RO N ops os ios = true → os.length = ios.length ∧ ∀ (i : Nat) (o : Oper), os[i]? = some o → ∃ io, ios[i]? = some io ∧ chkOp P RO N o io = true ∧ chkG ops N o io = true
  | [], [], _ => ⟨rfl, by simp⟩
  | o :: os, io :: ios, h => by
    simp only [chkOpers, Bool.and_eq_true] at h
    obtain ⟨h1, h2⟩ := chkOpers_get h.2.2
    refine ⟨by simp [h1], fun i o' ho => ?_⟩
    cases i with
    | zero => simp at ho; subst ho; exact ⟨io, rfl, h.1, h.2.1⟩
    | succ i => exact h2 i o' (by simpa using ho)
  | [], _ :: _, h => by cases h
  | _ :: _, [], h => by cases h

/-- One operation, with its guard. -/
theorem stepG_ok (hΓ : Sound P O Γ) (hRO : ROok RO Γ) {st st' : FS Ω} {a : Act} {E : Env} {τ : Nat → Tag} (hI : Inv O N st a E τ) {ops : Array Oper} {go : Oper} {io : IOper} (hk : chkOp P RO N go io = true) (hg : chkG ops N go io = true)
    (h : stepG Γ io st = some st') {K : Act → World → Prop} {Q : Exit → Act → World → Prop} (hK : ∀ a' E' τ', Inv O N st' a' E' τ' → Step E E' τ τ' → K a' E'.w) :
    if Region.wanted go (yielded ops a.tmps) = true then go.wp P a E.w K Q else K (a.put go.dst Go.undef) E.w := by
  have hkk := hk
  simp only [chkOp, Bool.and_eq_true] at hkk
  have hds := sameD_eq hkk.1
  have hd := dstOK_lt hkk.2.1
  unfold chkG at hg
  split at hg
  · rename_i h1 h2
    have hw : Region.wanted go (yielded ops a.tmps) = true := by simp [Region.wanted, h1]
    rw [if_pos hw]
    simp only [stepG, h2] at h
    exact op_ok hΓ hRO hI hk h K Q hK
  · rename_i j w s w' h1 h2
    simp only [Bool.and_eq_true] at hg
    have hww := sameBool_eq hg.1
    subst hww
    obtain ⟨_, hg⟩ := hg
    split at hg
    · rename_i oj hoj
      split at hg
      · rename_i d hdj
        simp only [Bool.and_eq_true] at hg
        have hds2 := Nat.eq_of_beq_eq_true hg.1
        subst hds2
        have hlt : d < N := Nat.blt_eq ▸ hg.2
        have hslot := hI.slots d
        have hy : yielded ops a.tmps j = match a.tmps.getD d Go.undef with | .bool b => some b | _ => none := by
          have hsz : d < a.tmps.size := Nat.lt_of_lt_of_le hlt hI.size
          simp only [yielded, hoj, Option.bind_some, hdj, Array.getD_eq_getD_getElem?, Array.getElem?_eq_getElem hsz, Option.getD_some]
          cases a.tmps[d] <;> rfl
        simp only [stepG, h2] at h
        generalize hq : getS st.sl d = q at h hslot
        have hskip : some (st.put io.dst (.sc Go.undef)) = some st' → K (a.put go.dst Go.undef) E.w := by
          intro h
          simp only [Option.some.injEq] at h
          rw [← hds] at h
          exact hK _ E τ (by rw [← h]; exact hI.putPlain hd (.pure (.sc _)) rfl rfl) (.refl E τ)
        cases q with
        | sc v =>
          have hv := hslot.sc_inv
          cases v with
          | bool b =>
            simp only at h
            split at h
            · rename_i hb
              have hb : b = w := by simpa using hb
              have hw : Region.wanted go (yielded ops a.tmps) = true := by simp [Region.wanted, h1, hy, hv, hb]
              rw [if_pos hw]
              exact op_ok hΓ hRO hI hk h K Q hK
            · rename_i hb
              have hb : b ≠ w := by simpa using hb
              have hw : ¬ Region.wanted go (yielded ops a.tmps) = true := by simp [Region.wanted, h1, hy, hv, hb]
              rw [if_neg hw]
              exact hskip h
          | _ =>
            have hw : ¬ Region.wanted go (yielded ops a.tmps) = true := by simp [Region.wanted, h1, hy, hv]
            rw [if_neg hw]
            exact hskip h
        | _ => cases h
      · cases hg
    · cases hg
  · cases hg

def runIdx (Γ : Orc Ω) (ios : List IOper) : List Nat → FS Ω → Option (FS Ω)
  | [], st => some st
  | i :: l, st => match ios[i]? with
    | some io => (stepG Γ io st).bind (runIdx Γ ios l)
    | none => runIdx Γ ios l st

theorem runIdx_range (ios : List IOper) : ∀ (l : List IOper) (k : Nat) (st : FS Ω), ios.drop k = l → runIdx Γ ios (List.range' k l.length) st = runOps Γ l st
  | [], k, st, _ => rfl
  | o :: l, k, st, h => by
    have h1 : ios[k]? = some o := by
      have := congrArg (·[0]?) h
      simpa using this
    simp only [List.length_cons, List.range'_succ, runIdx, h1, runOps]
    congr 1
    funext s
    exact runIdx_range ios l (k + 1) s (by rw [← List.drop_drop, h]; rfl)

/-- In text order. -/
theorem region_text (hΓ : Sound P O Γ) (hRO : ROok RO Γ) {ops : Array Oper} {ios : List IOper} (hk : chkOpers P RO N ops ops.toList ios = true) {Q : Exit → Act → World → Prop} :
    ∀ (l : List Nat) (st st' : FS Ω) (a : Act) (E : Env) (τ : Nat → Tag), Inv O N st a E τ → runIdx Γ ios l st = some st' → (∀ a' E' τ', Inv O N st' a' E' τ' → Step E E' τ τ' → Q .normal a' E'.w) → wpOps P ops Q l a E.w
  | [], st, st', a, E, τ, hI, h, hQ => by
    simp only [runIdx, Option.some.injEq] at h
    subst h
    exact hQ a E τ hI (.refl E τ)
  | i :: l, st, st', a, E, τ, hI, h, hQ => by
    simp only [wpOps]
    cases ho : ops[i]? with
    | none =>
      have hn : ios[i]? = none := by
        have h1 := (chkOpers_get hk).1
        rw [Array.getElem?_eq_none_iff] at ho
        rw [List.getElem?_eq_none_iff, ← h1]
        simpa using ho
      simp only [runIdx, hn] at h
      exact region_text hΓ hRO hk l st st' a E τ hI h hQ
    | some o =>
      obtain ⟨io, hio, hko, hkg⟩ := (chkOpers_get hk).2 i o (by simpa using ho)
      simp only [runIdx, hio] at h
      rw [Option.bind_eq_some_iff] at h
      obtain ⟨s1, hs1, h⟩ := h
      have key := stepG_ok hΓ hRO hI hko hkg hs1 (K := wpOps P ops Q l) (Q := Q) (fun a' E' τ' hI' hs => region_text hΓ hRO hk l s1 st' a' E' τ' hI' h (fun a2 E2 τ2 hI2 hs2 => hQ a2 E2 τ2 hI2 (hs.trans hs2)))
      simp only
      split
      · rename_i hw; rw [if_pos hw] at key; exact .inl key
      · rename_i hw; rw [if_neg hw] at key; exact key
end Go.Fw
end
section
/- Drawn regions. -/
namespace Go.Fw
variable {Ω : Type} {O : OpqSem Ω} {N : Nat} {P : Program} {RO : Nat → Bool} {Γ : Orc Ω}

def runI (Γ : Orc Ω) (ios : List IOper) (i : Nat) (st : FS Ω) : Option (FS Ω) :=
  match ios[i]? with
  | some io => stepG Γ io st
  | none => some st

theorem runIdx_cons (ios : List IOper) (i : Nat) (l : List Nat) (st : FS Ω) : runIdx Γ ios (i :: l) st = (runI Γ ios i st).bind (runIdx Γ ios l) := by
  simp only [runIdx, runI]; cases ios[i]? <;> rfl

def indepI (ios : List IOper) (i j : Nat) : Bool :=
  match ios[i]?, ios[j]? with
  | some a, some b => indep a b
  | _, _ => true

theorem swapI {ios : List IOper} {i j : Nat} (hi : indepI ios i j = true) {st st' : FS Ω} (h : (runI Γ ios i st).bind (runI Γ ios j) = some st') : (runI Γ ios j st).bind (runI Γ ios i) = some st' := by
  have e : ∀ k, ios[k]? = none → runI Γ ios k = (some : FS Ω → _) := by intro k hk; funext s; simp [runI, hk]
  cases h1 : ios[i]? with
  | none =>
    rw [e i h1] at h ⊢
    simp only [Option.bind_some] at h
    rw [h]; rfl
  | some a =>
    cases h2 : ios[j]? with
    | none =>
      rw [e j h2] at h ⊢
      simp only [Option.bind_some]
      cases hx : runI Γ ios i st with
      | none => rw [hx] at h; cases h
      | some s => rw [hx] at h; exact h
    | some b =>
      have e1 : runI Γ ios i = stepG Γ a := by funext s; simp [runI, h1]
      have e2 : runI Γ ios j = stepG Γ b := by funext s; simp [runI, h2]
      rw [e1, e2] at h ⊢
      simp only [indepI, h1, h2] at hi
      exact swap (local_all Γ a) (local_all Γ b) hi h

/-- An operation comes to the front. -/
theorem to_front {ios : List IOper} {i : Nat} {post : List Nat} : ∀ (pre : List Nat) (st st' : FS Ω), (∀ j ∈ pre, indepI ios j i = true) → runIdx Γ ios (pre ++ i :: post) st = some st' →
    (runI Γ ios i st).bind (runIdx Γ ios (pre ++ post)) = some st'
  | [], st, st', _, h => by rw [List.nil_append, runIdx_cons] at h; exact h
  | j :: pre, st, st', hi, h => by
    rw [List.cons_append, runIdx_cons, Option.bind_eq_some_iff] at h
    obtain ⟨s1, hs1, h⟩ := h
    have h2 := to_front pre s1 st' (fun k hk => hi k (by simp [hk])) h
    rw [Option.bind_eq_some_iff] at h2
    obtain ⟨s2, hs2, h2⟩ := h2
    have h3 := swapI (Γ := Γ) (hi j (by simp)) (st := st) (st' := s2) (by rw [hs1]; exact hs2)
    rw [Option.bind_eq_some_iff] at h3
    obtain ⟨s3, hs3, h3⟩ := h3
    rw [hs3, Option.bind_some, List.cons_append, runIdx_cons, h3]
    exact h2

/-- The operations that an operation always waits for. -/
def direct (ops : Array Oper) (i : Nat) : List Nat :=
  match ops[i]? with
  | some o => (o.after.toList.filter (Region.binds .any)).map (·.on)
  | none => []
/-- As numbers' bits: those that it waits for, and whatever they wait for. -/
def maskOf (ms : List Nat) : List Nat → Nat
  | [] => 0
  | j :: r => Nat.lor (Nat.lor (Nat.shiftLeft 1 j) (ms.getD j 0)) (maskOf ms r)
def masks (ops : Array Oper) : Nat → List Nat
  | 0 => []
  | n + 1 => masks ops n ++ [maskOf (masks ops n) (direct ops n)]
def ancBit (ops : Array Oper) (i j : Nat) : Bool := Nat.testBit (maskOf (masks ops i) (direct ops i)) j

theorem maskOf_bit {ms : List Nat} {j : Nat} : ∀ {l : List Nat}, Nat.testBit (maskOf ms l) j = true → ∃ k ∈ l, j = k ∨ Nat.testBit (ms.getD k 0) j = true
  | [], h => by simp [maskOf] at h
  | k :: r, h => by
    have e : maskOf ms (k :: r) = ((1 <<< k) ||| (ms.getD k 0)) ||| maskOf ms r := rfl
    rw [e, Nat.testBit_or, Nat.testBit_or, Bool.or_eq_true, Bool.or_eq_true] at h
    rcases h with (h | h) | h
    · refine ⟨k, by simp, .inl ?_⟩
      rw [Nat.testBit_shiftLeft] at h
      simp only [Bool.and_eq_true, decide_eq_true_eq] at h
      obtain ⟨h1, h2⟩ := h
      have : j - k = 0 := by
        have := Nat.testBit_one_eq_true_iff_self_eq_zero.1 h2
        exact this
      omega
    · exact ⟨k, by simp, .inr h⟩
    · obtain ⟨k', h1, h2⟩ := maskOf_bit h
      exact ⟨k', by simp [h1], h2⟩

theorem masks_length (ops : Array Oper) : ∀ n, (masks ops n).length = n
  | 0 => rfl
  | n + 1 => by simp [masks, masks_length ops n]
theorem masks_get (ops : Array Oper) : ∀ (n k : Nat), k < n → (masks ops n).getD k 0 = maskOf (masks ops k) (direct ops k)
  | n + 1, k, h => by
    simp only [masks]
    by_cases hk : k < n
    · rw [List.getD_eq_getElem?_getD, List.getElem?_append_left (by rw [masks_length]; exact hk), ← List.getD_eq_getElem?_getD]
      exact masks_get ops n k hk
    · have : k = n := by omega
      subst this
      rw [List.getD_eq_getElem?_getD, List.getElem?_append_right (by rw [masks_length]; exact Nat.le_refl _), masks_length, Nat.sub_self]
      rfl

/-- All pairs that no edge orders may change places; edges point back. -/
def drawPair (ops : Array Oper) (ios : List IOper) (i : Nat) : Bool :=
  (direct ops i).all (Nat.blt · i) && (List.range i).all fun j => ancBit ops i j || indepI ios j i
def drawOK (ops : Array Oper) (ios : List IOper) : Bool := (List.range ops.size).all (drawPair ops ios)

def remN (n : Nat) (listed : Array Bool) : List Nat := (List.range n).filter fun i => !listed.getD i true

/-- Listed with all it waits for. -/
def Closed (ops : Array Oper) (listed : Array Bool) : Prop := ∀ i, i < ops.size → listed.getD i true = true → ∀ j ∈ direct ops i, listed.getD j false = true

theorem anc_listed {ops : Array Oper} {listed : Array Bool} (hsz : listed.size = ops.size) (hc : Closed ops listed) (hback : ∀ i, i < ops.size → ∀ j ∈ direct ops i, j < i) :
    ∀ (n i : Nat), i < n → i < ops.size → (∀ j ∈ direct ops i, listed.getD j false = true) → ∀ j, ancBit ops i j = true → listed.getD j false = true
  | 0, _, h, _, _, _, _ => by omega
  | n + 1, i, h, his, hi, j, hj => by
    obtain ⟨k, hk, h2⟩ := maskOf_bit hj
    rcases h2 with rfl | h2
    · exact hi _ hk
    · have hki := hback i his k hk
      rw [masks_get ops i k hki] at h2
      have hkl := hi k hk
      have hlt : k < ops.size := by omega
      refine anc_listed hsz hc hback n k (by omega) hlt (hc k hlt ?_) j h2
      have h3 : k < listed.size := by omega
      simp [Array.getD_eq_getD_getElem?, Array.getElem?_eq_getElem h3] at hkl ⊢
      exact hkl

theorem ready_iff {ops : Array Oper} {listed : Array Bool} {i : Nat} : i ∈ Region.ready .any ops listed ↔ i < ops.size ∧ listed.getD i true = false ∧ ∀ j ∈ direct ops i, listed.getD j false = true := by
  simp only [Region.ready, List.mem_filter, List.mem_range, Bool.and_eq_true, Bool.not_eq_true']
  constructor
  · rintro ⟨h1, h2, h3⟩
    refine ⟨h1, h2, fun j hj => ?_⟩
    simp only [direct, Array.getElem?_eq_getElem h1, List.mem_map, List.mem_filter] at hj
    obtain ⟨e, ⟨he, hb⟩, rfl⟩ := hj
    simp only [Array.getElem?_eq_getElem h1, Option.map_some, Option.getD_some] at h3
    have h3 := Array.all_eq_true'.1 h3 e (by simpa using he)
    simpa [hb] using h3
  · rintro ⟨h1, h2, h3⟩
    refine ⟨h1, h2, ?_⟩
    simp only [Array.getElem?_eq_getElem h1, Option.map_some, Option.getD_some]
    refine Array.all_eq_true'.2 fun e he => ?_
    cases hb : Region.binds .any e with
    | false => rfl
    | true =>
      have := h3 e.on (by
        simp only [direct, Array.getElem?_eq_getElem h1, List.mem_map, List.mem_filter]
        exact ⟨e, ⟨by simpa using he, hb⟩, rfl⟩)
      simpa using this
end Go.Fw
end
section
/- Drawn regions, II. -/
namespace Go.Fw
variable {Ω : Type} {O : OpqSem Ω} {N : Nat} {P : Program} {RO : Nat → Bool} {Γ : Orc Ω}

theorem getD_set {listed : Array Bool} {i j : Nat} {dflt : Bool} (hi : i < listed.size) : (listed.setIfInBounds i true).getD j dflt = if j = i then true else listed.getD j dflt := by
  simp only [Array.getD_eq_getD_getElem?, Array.getElem?_setIfInBounds]
  by_cases h : i = j
  · subst h; simp [hi]
  · rw [if_neg h, if_neg (Ne.symm h)]

theorem mem_remN {n i : Nat} {listed : Array Bool} : i ∈ remN n listed ↔ i < n ∧ listed.getD i true = false := by
  simp only [remN, List.mem_filter, List.mem_range, Bool.not_eq_true']

theorem remN_split {n : Nat} {listed : Array Bool} (hsz : listed.size = n) {i : Nat} (hi : i < n) (hl : listed.getD i true = false) :
    ∃ pre post, remN n listed = pre ++ i :: post ∧ remN n (listed.setIfInBounds i true) = pre ++ post ∧ ∀ j ∈ pre, j < i ∧ listed.getD j true = false := by
  have hmem : i ∈ remN n listed := mem_remN.2 ⟨hi, hl⟩
  obtain ⟨pre, post, e⟩ := List.append_of_mem hmem
  have hpw : (remN n listed).Pairwise (· < ·) := (List.pairwise_lt_range (n := n)).filter _
  rw [e, List.pairwise_append] at hpw
  obtain ⟨hp1, hp2, hp3⟩ := hpw
  rw [List.pairwise_cons] at hp2
  refine ⟨pre, post, e, ?_, fun j hj => ⟨hp3 j hj i (by simp), ?_⟩⟩
  · have : remN n (listed.setIfInBounds i true) = (remN n listed).filter (fun j => !(j == i)) := by
      simp only [remN, List.filter_filter]
      apply List.filter_congr
      intro j _
      rw [getD_set (by omega)]
      by_cases h : j = i
      · simp [h]
      · simp [h]
    rw [this, e, List.filter_append, List.filter_cons]
    have h1 : pre.filter (fun j => !(j == i)) = pre := List.filter_eq_self.2 fun j hj => by
      have := hp3 j hj i (by simp)
      simp; omega
    have h2 : post.filter (fun j => !(j == i)) = post := List.filter_eq_self.2 fun j hj => by
      have := hp2.1 j hj
      simp; omega
    rw [h1, h2]; simp
  · have : j ∈ remN n listed := by rw [e]; simp [hj]
    simp only [remN, List.mem_filter, Bool.not_eq_true'] at this
    exact this.2

theorem region_any (hΓ : Sound P O Γ) (hRO : ROok RO Γ) {ops : Array Oper} {ios : List IOper} (hk : chkOpers P RO N ops ops.toList ios = true) (hdr : drawOK ops ios = true) {Q : Exit → Act → World → Prop} :
    ∀ (fuel : Nat) (listed : Array Bool) (st st' : FS Ω) (a : Act) (E : Env) (τ : Nat → Tag), listed.size = ops.size → Closed ops listed → (remN ops.size listed).length ≤ fuel → Inv O N st a E τ → runIdx Γ ios (remN ops.size listed) st = some st' →
      (∀ a' E' τ', Inv O N st' a' E' τ' → Step E E' τ τ' → Q .normal a' E'.w) → wpAny P .any ops Q fuel listed a E.w := by
  have hpair : ∀ i, i < ops.size → drawPair ops ios i = true := by
    intro i hi
    exact List.all_eq_true.1 hdr i (by simpa using hi)
  have hback : ∀ i, i < ops.size → ∀ j ∈ direct ops i, j < i := by
    intro i hi j hj
    have := hpair i hi
    simp only [drawPair, Bool.and_eq_true] at this
    exact Nat.blt_eq ▸ List.all_eq_true.1 this.1 j hj
  have hready : ∀ listed : Array Bool, listed.size = ops.size → Region.ready .any ops listed = [] → remN ops.size listed = [] := by
    intro listed hsz hr
    cases hrem : remN ops.size listed with
    | nil => rfl
    | cons i l =>
      exfalso
      have hmin : i < ops.size ∧ listed.getD i true = false ∧ ∀ j, j < i → listed.getD j true = true := by
        have hmem : i ∈ remN ops.size listed := by rw [hrem]; simp
        have hpw : (remN ops.size listed).Pairwise (· < ·) := (List.pairwise_lt_range (n := ops.size)).filter _
        simp only [remN, List.mem_filter, List.mem_range, Bool.not_eq_true'] at hmem
        refine ⟨hmem.1, hmem.2, fun j hj => ?_⟩
        cases hlj : listed.getD j true with
        | true => rfl
        | false =>
          have : j ∈ remN ops.size listed := mem_remN.2 ⟨by omega, hlj⟩
          rw [hrem] at this hpw
          rw [List.pairwise_cons] at hpw
          cases this with
          | head => omega
          | tail _ h => have := hpw.1 j h; omega
      have : i ∈ Region.ready .any ops listed := by
        rw [ready_iff]
        refine ⟨hmin.1, hmin.2.1, fun j hj => ?_⟩
        have hji := hback i hmin.1 j hj
        have := hmin.2.2 j hji
        have hjs : j < listed.size := by omega
        simp only [Array.getD_eq_getD_getElem?, Array.getElem?_eq_getElem hjs, Option.getD_some] at this ⊢
        exact this
      rw [hr] at this
      cases this
  intro fuel
  induction fuel with
  | zero =>
    intro listed st st' a E τ hsz hc hf hI h hQ
    have hrem : remN ops.size listed = [] := by
      cases hr : remN ops.size listed with
      | nil => rfl
      | cons i l => rw [hr] at hf; simp at hf
    refine ⟨?_, ?_⟩
    · cases hr : Region.ready .any ops listed with
      | nil => rfl
      | cons i l =>
        have hi : i ∈ Region.ready .any ops listed := by rw [hr]; simp
        rw [ready_iff] at hi
        have : i ∈ remN ops.size listed := mem_remN.2 ⟨hi.1, hi.2.1⟩
        rw [hrem] at this; cases this
    · rw [hrem] at h
      simp only [runIdx, Option.some.injEq] at h
      subst h
      exact hQ a E τ hI (.refl E τ)
  | succ fuel ih =>
    intro listed st st' a E τ hsz hc hf hI h hQ
    refine ⟨fun hr => ?_, fun i hi => ?_⟩
    · rw [hready listed hsz hr] at h
      simp only [runIdx, Option.some.injEq] at h
      subst h
      exact hQ a E τ hI (.refl E τ)
    · rw [ready_iff] at hi
      obtain ⟨hi1, hi2, hi3⟩ := hi
      obtain ⟨pre, post, e1, e2, hpre⟩ := remN_split hsz hi1 hi2
      have hind : ∀ j ∈ pre, indepI ios j i = true := by
        intro j hj
        obtain ⟨hji, hjl⟩ := hpre j hj
        have hp := hpair i hi1
        simp only [drawPair, Bool.and_eq_true] at hp
        have := List.all_eq_true.1 hp.2 j (by simpa using hji)
        simp only [Bool.or_eq_true] at this
        rcases this with h | h
        · have := anc_listed hsz hc hback (i + 1) i (by omega) hi1 hi3 j h
          have hjs : j < listed.size := by omega
          simp only [Array.getD_eq_getD_getElem?, Array.getElem?_eq_getElem hjs, Option.getD_some] at this hjl
          rw [this] at hjl; cases hjl
        · exact h
      rw [e1] at h hf
      have h2 := to_front pre st st' hind h
      have hset : (listed.setIfInBounds i true).size = ops.size := by simp [hsz]
      have hclosed : Closed ops (listed.setIfInBounds i true) := by
        intro k hk hkl j hj
        rw [getD_set (by omega)] at hkl ⊢
        by_cases hki : k = i
        · subst hki
          by_cases hjk : j = k
          · rw [if_pos hjk]
          · rw [if_neg hjk]; exact hi3 j hj
        · rw [if_neg hki] at hkl
          by_cases hji : j = i
          · rw [if_pos hji]
          · rw [if_neg hji]; exact hc k hk hkl j hj
      have hlen : (remN ops.size (listed.setIfInBounds i true)).length ≤ fuel := by
        rw [e2]
        simp only [List.length_append, List.length_cons] at hf ⊢
        omega
      rw [Option.bind_eq_some_iff] at h2
      obtain ⟨s1, hs1, h2⟩ := h2
      rw [← e2] at h2
      have ho : ops[i]? = some ops[i] := Array.getElem?_eq_getElem hi1
      obtain ⟨io, hio, hko, hkg⟩ := (chkOpers_get hk).2 i ops[i] (by simpa using ho)
      have hs1 : stepG Γ io st = some s1 := by simpa [runI, hio] using hs1
      have key := stepG_ok hΓ hRO hI hko hkg hs1 (K := wpAny P .any ops Q fuel (listed.setIfInBounds i true)) (Q := Q)
        (fun a' E' τ' hI' hs => ih _ s1 st' a' E' τ' hset hclosed hlen hI' h2 (fun a2 E2 τ2 hI2 hs2 => hQ a2 E2 τ2 hI2 (hs.trans hs2)))
      simp only [wpOp, ho]
      split
      · rename_i hw; rw [if_pos hw] at key; exact .inl key
      · rename_i hw; rw [if_neg hw] at key; exact key
end Go.Fw
end
section
/- Code. -/
namespace Go.Fw
variable {Ω : Type} {O : OpqSem Ω} {N : Nat} {P : Program} {RO : Nat → Bool} {Γ : Orc Ω}

theorem look_keepS : ∀ (ks : List Nat) (s : List (Nat × PV)) (t : Nat), look (keepS ks s) t = if hasN ks t = true then some (strip (getS s t)) else none
  | [], _, _ => rfl
  | k :: ks, s, t => by
    simp only [keepS, hasN, look_cons1', look_keepS ks s t]
    by_cases h : t = k
    · subst h; simp [Nat.beq_refl]
    · rw [if_neg h]
      have : Nat.beq t k = false := by
        cases e : Nat.beq t k with
        | false => rfl
        | true => exact absurd (Nat.eq_of_beq_eq_true e) h
      simp [this]
theorem getS_keepS (ks : List Nat) (s : List (Nat × PV)) (t : Nat) : getS (keepS ks s) t = if hasN ks t = true then strip (getS s t) else .undef := by
  unfold getS
  rw [look_keepS]
  by_cases h : hasN ks t = true
  · rw [if_pos h, if_pos h]; rfl
  · rw [if_neg h, if_neg h]

theorem strip_own_inv {p : PV} {z : Nat} {es : List (List PV)} (h : strip p = .sl .own z es) : p = .sl .own z es := by
  cases p with
  | sl f z' es' => cases f <;> first | exact h | cases h
  | _ => cases h
theorem strip_al_ne {p : PV} {s : Src} {z : Nat} {es : List (List PV)} : strip p ≠ .sl (.al s) z es := by
  cases p with
  | sl f z' es' => cases f <;> simp [strip]
  | _ => simp [strip]
theorem ownSub_strip {D : List Nat} (p : PV) : ownSub D (strip p) = ownSub D p := by
  cases p with
  | sl f z' es' => cases f <;> rfl
  | _ => rfl

theorem look_keepL : ∀ (ks : List Nat) (L : Fr Ω) (t : Nat), look (keepL ks L) t = if hasN ks t = true then look L t else none
  | [], _, _ => rfl
  | k :: ks, L, t => by
    have hb : t ≠ k → Nat.beq t k = false := by
      intro h
      cases e : Nat.beq t k with
      | false => rfl
      | true => exact absurd (Nat.eq_of_beq_eq_true e) h
    simp only [keepL, hasN]
    cases hk : look L k with
    | none =>
      simp only []
      rw [look_keepL ks L t]
      by_cases h : t = k
      · subst h; rw [hk]; simp
      · simp [hb h]
    | some c =>
      simp only [look_cons1']
      rw [look_keepL ks L t]
      by_cases h : t = k
      · subst h; simp [hk, Nat.beq_refl]
      · simp [h, hb h]

mutual
theorem ownSub_both {D D1 D2 : List Nat} (h : ∀ k, hasN D1 k = true → hasN D2 k = true → hasN D k = true) : ∀ p : PV, ownSub D1 p = true → ownSub D2 p = true → ownSub D p = true
  | .own k _, h1, h2 => by simp only [ownSub] at h1 h2 ⊢; exact h k h1 h2
  | .agg cs, h1, h2 => by simp only [ownSub] at h1 h2 ⊢; exact ownSubs_both h cs h1 h2
  | .tup cs, h1, h2 => by simp only [ownSub] at h1 h2 ⊢; exact ownSubs_both h cs h1 h2
  | .clo _ a b, h1, h2 => by
    simp only [ownSub, Bool.and_eq_true] at h1 h2 ⊢
    exact ⟨ownSubs_both h a h1.1 h2.1, ownSubs_both h b h1.2 h2.2⟩
  | .fresh _, h1, _ => by simp [ownSub] at h1
  | .undef, _, _ | .sc _, _, _ | .sl .., _, _ | .ptr .., _, _ | .elp .., _, _ => rfl
theorem ownSubs_both {D D1 D2 : List Nat} (h : ∀ k, hasN D1 k = true → hasN D2 k = true → hasN D k = true) : ∀ ps : List PV, ownSubs D1 ps = true → ownSubs D2 ps = true → ownSubs D ps = true
  | [], _, _ => rfl
  | p :: ps, h1, h2 => by
    simp only [ownSubs, Bool.and_eq_true] at h1 h2 ⊢
    exact ⟨ownSub_both h p h1.1 h2.1, ownSubs_both h ps h1.2 h2.2⟩
end

theorem ownSubS_look {D : List Nat} : ∀ {s : List (Nat × PV)} {t : Nat} {p : PV}, ownSubS D s = true → look s t = some p → ownSub D p = true
  | (j, q) :: r, t, p, h, e => by
    simp only [ownSubS, Bool.and_eq_true] at h
    rw [look_cons1'] at e
    by_cases hj : t = j
    · rw [if_pos hj] at e; injection e with e; rw [← e]; exact h.1
    · rw [if_neg hj] at e; exact ownSubS_look h.2 e
  | [], _, _, _, e => by cases e

/-- Some slots are kept; and some boxes. -/
theorem Inv.kept {st : FS Ω} {a : Act} {E : Env} {τ : Nat → Tag} (hI : Inv O N st a E τ) (keep : List Nat) (L' : Fr Ω) (d : Bool) (hL : ∀ k c, look L' k = some c → look st.L k = some c)
    (hw : ∀ t, ownSub (keys L') (getS (keepS keep st.sl) t) = true) : Inv O N { st with sl := keepS keep st.sl, L := L', dirty := d } a E τ := by
  have hg := getS_keepS keep st.sl
  have hno : ∀ {t s z es}, getS (keepS keep st.sl) t ≠ .sl (.al s) z es := by
    intro t s z es
    rw [hg]
    split
    · exact strip_al_ne
    · intro h; cases h
  constructor
  · exact hI.me
  · exact hI.defers
  · exact hI.size
  · intro t
    show RV E (getS (keepS keep st.sl) t) _
    rw [hg]
    split
    · exact (hI.slots t).strip
    · exact .pure (.undef _)
  · exact hI.frames
  · intro k c hc; exact hI.mine k c (hL k c hc)
  · exact hw
  · intro t z es hp
    have hp : getS (keepS keep st.sl) t = _ := hp
    rw [hg] at hp
    split at hp
    · exact hI.rights t z es (strip_own_inv hp)
    · cases hp
  · intro _ t x z es hp; exact absurd hp hno
  · intro _ t k off z es cs z' es' hp; exact absurd hp hno
  · intro _ t d k off z es F cs z' es' hp; exact absurd hp hno
  · exact hI.fresh
  · intro t x z es hp; exact absurd hp hno

theorem Inv.regEnd {st : FS Ω} {a : Act} {E : Env} {τ : Nat → Tag} (hI : Inv O N st a E τ) (keep : List Nat) : Inv O N { st with sl := keepS keep st.sl, dirty := false } a E τ := by
  refine hI.kept keep st.L false (fun _ _ h => h) (fun t => ?_)
  rw [getS_keepS]
  split
  · rw [ownSub_strip]; exact hI.wfs t
  · rfl

theorem Inv.reset {st st' : FS Ω} {a : Act} {E : Env} {τ : Nat → Tag} (hI : Inv O N st a E τ) {keep boxes : List Nat} (h : reset keep boxes st = some st') : Inv O N st' a E τ := by
  unfold Go.Fw.reset at h
  simp only at h
  split at h
  · rename_i ho
    simp only [Option.some.injEq] at h
    rw [← h]
    refine hI.kept keep (keepL boxes st.L) st.dirty (fun k c hc => ?_) (fun t => ?_)
    · rw [look_keepL] at hc
      split at hc
      · exact hc
      · cases hc
    · have hw : ownSub (keys st.L) (getS (keepS keep st.sl) t) = true := by
        rw [getS_keepS]
        split
        · rw [ownSub_strip]; exact hI.wfs t
        · rfl
      cases hl : look (keepS keep st.sl) t with
      | none => unfold getS; rw [hl]; rfl
      | some p =>
        have hp := ownSubS_look ho hl
        have e : getS (keepS keep st.sl) t = p := by unfold getS; rw [hl]
        rw [e] at hw ⊢
        refine ownSub_both (fun k h1 h2 => ?_) p hw hp
        rw [hasN_keys] at h1 ⊢
        rw [look_keepL, if_pos h2]
        exact h1
  · cases h
end Go.Fw
end
section
/- Code, II. -/
namespace Go.Fw
variable {Ω : Type} {O : OpqSem Ω} {N : Nat} {P : Program} {RO : Nat → Bool} {Γ : Orc Ω}

def chkCode (P : Program) (RO : Nat → Bool) (N : Nat) : Code → ICode → Bool
  | .skip, .skip => true
  | .region _ ops draw, .reg ios _ => chkOpers P RO N ops ops.toList ios && (!draw || drawOK ops ios)
  | .seq a b, .seq a' b' => chkCode P RO N a a' && chkCode P RO N b b'
  | .cond c a b, .cond c' a' b' => chkO c c' && (chkCode P RO N a a' && chkCode P RO N b b')
  | .block id c, .block id' c' => Nat.beq id id' && chkCode P RO N c c'
  | .loop c, .loop _ _ c' => chkCode P RO N c c'
  | .exit id, .exit id' => Nat.beq id id'
  | .ret, .ret => true
  | .exit id, .exitB _ _ id' => Nat.beq id id'
  | .ret, .retB _ _ => true
  | _, _ => false

def exOf : IExit → Exit
  | .normal => .normal
  | .exit i => .exit i
  | .ret => .ret

/-- The code does what it means. -/
def CodeOK (P : Program) (O : OpqSem Ω) (N : Nat) (c : Code) (run : FS Ω → Option (IExit × FS Ω)) : Prop :=
  ∀ st x st', run st = some (x, st') → ∀ a E τ, Inv O N st a E τ → ∀ Q : Exit → Act → World → Prop, (∀ a' E' τ', Inv O N st' a' E' τ' → Step E E' τ τ' → Q (exOf x) a' E'.w) → c.wp P Q a E.w

theorem step_drew {E : Env} {τ : Nat → Tag} (hf : ∀ b, E.w.heap.size ≤ b → E.σ b = 0 ∧ τ b = .frn) : Step E { E with w := { E.w with drawn := E.w.drawn + 1 } } τ τ := (Calm.drew hf).step

theorem loop_ok {c : Code} {body : FS Ω → Option (IExit × FS Ω)} (hb : CodeOK P O N c body) (keep boxes : List Nat) : ∀ n st x st', loopN body keep boxes n st = some (x, st') → ∀ a E τ, Inv O N st a E τ → ∀ Q : Exit → Act → World → Prop,
    (∀ a' E' τ', Inv O N st' a' E' τ' → Step E E' τ τ' → Q (exOf x) a' E'.w) → Code.rounds P c Q n a E.w
  | 0, _, _, _, h, _, _, _, _, _, _ => by cases h
  | n + 1, st, x, st', h, a, E, τ, hI, Q, hQ => by
    simp only [loopN] at h
    rw [rounds_succ]
    split at h
    · cases h
    · rename_i s hs
      have hI1 := hI.reset hs
      split at h
      · rename_i s' hbs
        refine hb s .normal s' hbs a E τ hI1 _ fun a' E' τ' hI' hst => ?_
        exact loop_ok hb keep boxes n s' x st' h a' E' τ' hI' Q fun a2 E2 τ2 hI2 hst2 => hQ a2 E2 τ2 hI2 (hst.trans hst2)
      · rename_i hne
        have hx : x ≠ .normal := by
          rintro rfl
          exact hne _ h
        refine hb s x st' h a E τ hI1 _ fun a' E' τ' hI' hst => ?_
        have := hQ a' E' τ' hI' hst
        cases x with
        | normal => exact absurd rfl hx
        | exit i => exact this
        | ret => exact this

theorem reg_ok (hΓ : Sound P O Γ) (hRO : ROok RO Γ) (hm : P.follows .mixedOrders = true) {id : Nat} {ops : Array Oper} {draw : Bool} {ios : List IOper} {keep : List Nat} (hk : chkOpers P RO N ops ops.toList ios = true) (hdr : draw = true → drawOK ops ios = true) :
    CodeOK P O N (.region id ops draw) fun st => (runReg Γ ios keep st).map (.normal, ·) := by
  intro st x st' h a E τ hI Q hQ
  simp only [Option.map_eq_some_iff, Prod.mk.injEq, runReg] at h
  obtain ⟨s, ⟨s1, hs1, rfl⟩, rfl, rfl⟩ := h
  have hlen : ops.size = ios.length := by have := (chkOpers_get hk).1; simpa using this
  have hidx : runIdx Γ ios (List.range ops.size) st = some s1 := by
    rw [hlen, List.range_eq_range']
    rw [runIdx_range ios ios 0 st rfl]
    exact hs1
  cases draw with
  | false =>
    refine wp_region (region_text hΓ hRO hk (List.range ops.size) st s1 a E τ hI hidx fun a' E' τ' hI' hs => ?_)
    exact hQ a' E' τ' (hI'.regEnd keep) hs
  | true =>
    have hC := Calm.drew (E := E) (τ := τ) hI.fresh
    have hrem : remN ops.size (Array.replicate ops.size false) = List.range ops.size := by
      unfold remN
      refine List.filter_eq_self.2 fun i hi => ?_
      have hi : i < ops.size := by simpa using hi
      simp [Array.getD_eq_getD_getElem?, hi]
    have := region_any hΓ hRO hk (hdr rfl) (Q := Q) ops.size (Array.replicate ops.size false) st s1 a { E with w := E.w.drew } τ (by simp) (by
      intro i hi hl
      simp [Array.getD_eq_getD_getElem?, hi] at hl) (by rw [hrem]; simp) (hI.calm hC) (by rw [hrem]; exact hidx) (fun a' E' τ' hI' hs => hQ a' E' τ' (hI'.regEnd keep) (hC.step.trans hs))
    exact wp_region_any hm this

theorem code_ok (hΓ : Sound P O Γ) (hRO : ROok RO Γ) (hm : P.follows .mixedOrders = true) (n : Nat) : ∀ (ic : ICode) (c : Code), chkCode P RO N c ic = true → CodeOK P O N c (den Γ n ic)
  | .skip, c, hk => by
    cases c <;> simp only [chkCode] at hk <;> try (cases hk; done)
    intro st x st' h a E τ hI Q hQ
    simp only [den, Option.some.injEq, Prod.mk.injEq] at h
    obtain ⟨rfl, rfl⟩ := h
    exact wp_skip (hQ a E τ hI (.refl E τ))
  | .reg ios keep, c, hk => by
    cases c <;> simp only [chkCode] at hk <;> try (cases hk; done)
    simp only [Bool.and_eq_true, Bool.or_eq_true, Bool.not_eq_true'] at hk
    refine reg_ok (Γ := Γ) (RO := RO) hΓ hRO hm hk.1 fun hd => ?_
    rcases hk.2 with h | h
    · rw [hd] at h; cases h
    · exact h
  | .seq a' b', c, hk => by
    cases c <;> simp only [chkCode] at hk <;> try (cases hk; done)
    simp only [Bool.and_eq_true] at hk
    have h1 := code_ok hΓ hRO hm n a' _ hk.1
    have h2 := code_ok hΓ hRO hm n b' _ hk.2
    intro st x st' h a E τ hI Q hQ
    simp only [den] at h
    refine wp_seq ?_
    split at h
    · rename_i s hs
      refine h1 st .normal s hs a E τ hI _ fun a2 E2 τ2 hI2 hs2 => ?_
      exact h2 s x st' h a2 E2 τ2 hI2 Q fun a3 E3 τ3 hI3 hs3 => hQ a3 E3 τ3 hI3 (hs2.trans hs3)
    · rename_i hne
      have hx : x ≠ .normal := by rintro rfl; exact hne _ h
      refine h1 st x st' h a E τ hI _ fun a2 E2 τ2 hI2 hs2 => ?_
      have := hQ a2 E2 τ2 hI2 hs2
      cases x with
      | normal => exact absurd rfl hx
      | exit i => exact this
      | ret => exact this
  | .cond c' a' b', c, hk => by
    cases c <;> simp only [chkCode] at hk <;> try (cases hk; done)
    simp only [Bool.and_eq_true] at hk
    obtain ⟨hc, ha, hb⟩ := hk
    have h1 := code_ok hΓ hRO hm n a' _ ha
    have h2 := code_ok hΓ hRO hm n b' _ hb
    intro st x st' h a E τ hI Q hQ
    have hv := chkO_RV hI hc
    simp only [den] at h
    split at h
    · rename_i hq
      rw [hq] at hv
      exact wp_cond_true hv.sc_inv (h1 st x st' h a E τ hI Q hQ)
    · rename_i hq
      rw [hq] at hv
      exact wp_cond_false hv.sc_inv (h2 st x st' h a E τ hI Q hQ)
    · cases h
  | .block id c', c, hk => by
    cases c <;> simp only [chkCode] at hk <;> try (cases hk; done)
    rename_i id0 c0
    simp only [Bool.and_eq_true] at hk
    have hid := Nat.eq_of_beq_eq_true hk.1
    subst hid
    have h1 := code_ok hΓ hRO hm n c' _ hk.2
    intro st x st' h a E τ hI Q hQ
    simp only [den] at h
    refine wp_block ?_
    split at h
    · rename_i i s hs
      refine h1 st (.exit i) s hs a E τ hI _ fun a2 E2 τ2 hI2 hs2 => ?_
      show if i = id0 then _ else _
      split at h
      · rename_i hi
        simp only [Option.some.injEq, Prod.mk.injEq] at h
        obtain ⟨rfl, rfl⟩ := h
        rw [if_pos (Nat.eq_of_beq_eq_true hi)]
        exact hQ a2 E2 τ2 hI2 hs2
      · rename_i hi
        simp only [Option.some.injEq, Prod.mk.injEq] at h
        obtain ⟨rfl, rfl⟩ := h
        rw [if_neg (by rintro rfl; exact hi (Nat.beq_refl i))]
        exact hQ a2 E2 τ2 hI2 hs2
    · rename_i hne
      refine h1 st x st' h a E τ hI _ fun a2 E2 τ2 hI2 hs2 => ?_
      have := hQ a2 E2 τ2 hI2 hs2
      cases x with
      | normal => exact this
      | exit i => exact absurd h (hne i st')
      | ret => exact this
  | .loop keep boxes c', c, hk => by
    cases c <;> simp only [chkCode] at hk <;> try (cases hk; done)
    have h1 := code_ok hΓ hRO hm n c' _ hk
    intro st x st' h a E τ hI Q hQ
    simp only [den] at h
    exact wp_loop_rounds n (loop_ok h1 keep boxes n st x st' h a E τ hI Q hQ)
  | .exit id, c, hk => by
    cases c <;> simp only [chkCode] at hk <;> try (cases hk; done)
    have hid := Nat.eq_of_beq_eq_true hk
    subst hid
    intro st x st' h a E τ hI Q hQ
    simp only [den, Option.some.injEq, Prod.mk.injEq] at h
    obtain ⟨rfl, rfl⟩ := h
    exact wp_exit (hQ a E τ hI (.refl E τ))
  | .ret, c, hk => by
    cases c <;> simp only [chkCode] at hk <;> try (cases hk; done)
    intro st x st' h a E τ hI Q hQ
    simp only [den, Option.some.injEq, Prod.mk.injEq] at h
    obtain ⟨rfl, rfl⟩ := h
    exact wp_ret (hQ a E τ hI (.refl E τ))
  | .exitB keep boxes id, c, hk => by
    cases c <;> simp only [chkCode] at hk <;> try (cases hk; done)
    have hid := Nat.eq_of_beq_eq_true hk
    subst hid
    intro st x st' h a E τ hI Q hQ
    simp only [den, Option.map_eq_some_iff] at h
    obtain ⟨s, hs, h⟩ := h
    simp only [Prod.mk.injEq] at h
    obtain ⟨rfl, rfl⟩ := h
    exact wp_exit (hQ a E τ (hI.reset hs) (.refl E τ))
  | .retB keep boxes, c, hk => by
    cases c <;> simp only [chkCode] at hk <;> try (cases hk; done)
    intro st x st' h a E τ hI Q hQ
    simp only [den, Option.map_eq_some_iff] at h
    obtain ⟨s, hs, h⟩ := h
    simp only [Prod.mk.injEq] at h
    obtain ⟨rfl, rfl⟩ := h
    exact wp_ret (hQ a E τ (hI.reset hs) (.refl E τ))
end Go.Fw
end
section
/- Functions. -/
namespace Go.Fw
variable {Ω : Type} {O : OpqSem Ω} {N : Nat} {P : Program} {RO : Nat → Bool} {Γ : Orc Ω}

def chkRets (P : Program) : List ResultVar → List (Nat × Option (Option Nat)) → Bool
  | [], [] => true
  | .tmp t :: rs, (t', none) :: qs => Nat.beq t t' && chkRets P rs qs
  | .cell a ty :: rs, (a', some n) :: qs => Nat.beq a a' && (isN (shapeOf P ty) n && chkRets P rs qs)
  | _, _ => false

/-- A result's value. -/
def resVal (P : Program) (tmps : Array Value) : ResultVar → Sem Value
  | .tmp t => pure (tmps.getD t Go.undef)
  | .cell a t => do loadVar t (← asAddr (tmps.getD a Go.undef))

theorem run_mapM {w : World} {f : ResultVar → Sem Value} : ∀ {rs : List ResultVar} {vs : List Value}, vs.length = rs.length → (∀ (i : Nat) (r : ResultVar) (v : Value), rs[i]? = some r → vs[i]? = some v → (f r).run P w = .ok v w) → (rs.mapM f).run P w = .ok vs w
  | [], [], _, _ => rfl
  | [], _ :: _, h, _ => by cases h
  | _ :: _, [], h, _ => by cases h
  | r :: rs, v :: vs, h, hf => by
    have h1 := hf 0 r v rfl rfl
    have h2 := run_mapM (w := w) (f := f) (rs := rs) (vs := vs) (by simpa using h) (fun i r v hr hv => hf (i + 1) r v (by simpa using hr) (by simpa using hv))
    rw [List.mapM_cons]
    simp [h1, h2]

/-- A load, its value alone. -/
theorem load_val {st : FS Ω} {a : Act} {E : Env} {τ : Nat → Tag} (hI : Inv O N st a E τ) {t : TypeId} {n : Option Nat} (hn : isN (shapeOf P t) n = true) {q p : PV} {v0 : Value} (hv : RV E q v0) (h : st.loadV n q = some p) :
    ∃ ad v, v0 = .pointer (some ad) ∧ (loadVar t ad).run P E.w = .ok v E.w ∧ RV E p v := by
  have hN := isN_eq hn
  by_cases hel : ∃ z es i off, q = .elp z es i off
  · obtain ⟨z, es, i, off, rfl⟩ := hel
    obtain ⟨b, o, he, hi, hok, hrc⟩ := hv.elp_inv
    simp only [FS.loadV] at h
    split at h
    · rename_i cs hcs
      have hel := RC.elem hok hrc hcs
      cases n with
      | none =>
        obtain ⟨_, _, _, _, _, ha, _⟩ := shape_none E.w hN
        simp only [Go.Fw.part, Option.map_eq_some_iff] at h
        obtain ⟨q, hq, rfl⟩ := h
        obtain ⟨v, hv1, hv2⟩ := hel.cell hq
        exact ⟨_, v, he, by simp [loadVar, ha, hv1], (RV.pure hv2).dem⟩
      | some n =>
        obtain ⟨_, _, _, _, _, ha, hs⟩ := shape_some E.w hN
        simp only [Go.Fw.part] at h
        split at h
        · rename_i hle
          simp only [Option.some.injEq] at h
          subst h
          obtain ⟨us, hus, hall⟩ := (hel.sub' off n).all
          have hle := Nat.le_of_ble_eq_true hle
          have hlen : us.length = n := by rw [hus.length]; simp; omega
          have htl : (cs.take off).length = off := by simp; omega
          rw [htl] at hall
          have := run_loadCells' (P := P) hall hlen
          exact ⟨_, .agg ⟨us⟩, he, by simp [loadVar, ha, hs, this], .agg (RVs.of_RPs hus).canons⟩
        · cases h
    · cases h
  · have hbox : ∃ cs off src, st.box? q = some (cs, off, src) ∧ ((n = none ∧ (cs[off]?).map (loaded (src off)) = some p) ∨ ∃ m, n = some m ∧ Go.Fw.part (some m) off cs = some p) := by
      cases q with
      | elp z es i off => exact absurd ⟨z, es, i, off, rfl⟩ hel
      | _ =>
        simp only [FS.loadV] at h
        split at h
        · rename_i cs off src hb
          refine ⟨cs, off, src, hb, ?_⟩
          cases n with
          | none => exact .inl ⟨rfl, h⟩
          | some m => exact .inr ⟨m, rfl, h⟩
        · cases h
    obtain ⟨cs, off, src, hb, hp⟩ := hbox
    obtain ⟨d, k, he, hdme, hc, hcase⟩ := box_ok hI hv hb
    obtain ⟨_, _, ho, vs, ty, hh, hvs, _⟩ := hc
    have hcellj : ∀ j v, vs[j]? = some v → E.w.cell? ⟨E.μ d k, j, none⟩ = some v := by
      intro j v hj
      rw [cell_of_row E.w _ j ⟨vs⟩ ty (0, 0) hh]
      simpa using hj
    rcases hp with ⟨rfl, hp⟩ | ⟨n, rfl, hp⟩
    · obtain ⟨_, _, _, _, _, ha, _⟩ := shape_none E.w hN
      simp only [Option.map_eq_some_iff] at hp
      obtain ⟨u, hu, rfl⟩ := hp
      obtain ⟨v, hv1, hv2⟩ := hvs.get hu
      have hc1 := hcellj off v hv1
      have hvu : RV E u v := RV.inner hdme hv2 (ownSubs_get ho hu)
      exact ⟨_, v, he, by simp [loadVar, ha, hc1], hvu.loaded⟩
    · obtain ⟨_, _, _, _, _, ha, hs⟩ := shape_some E.w hN
      have hpo : ownSub [] p = true := part_own ho hp
      simp only [Go.Fw.part] at hp
      split at hp
      · rename_i hle
        have hle := Nat.le_of_ble_eq_true hle
        simp only [Option.some.injEq] at hp
        have hlen : ((vs.drop off).take n).length = n := by have := hvs.length; simp; omega
        have hall : ∀ j v, ((vs.drop off).take n)[j]? = some v → E.w.cell? ⟨E.μ d k, off + j, none⟩ = some v := by
          intro j v hj
          refine hcellj (off + j) v ?_
          rw [List.getElem?_take] at hj
          split at hj
          · rw [List.getElem?_drop] at hj; exact hj
          · cases hj
        have hl := run_loadCells' (P := P) hall hlen
        have hrel : RV E p (.agg ⟨(vs.drop off).take n⟩) := by
          have h1 : RV { E with me := d } p (.agg ⟨(vs.drop off).take n⟩) := by rw [← hp]; exact .agg ((hvs.drop off).take n).canons
          exact RV.inner hdme h1 hpo
        exact ⟨_, .agg ⟨(vs.drop off).take n⟩, he, by simp [loadVar, ha, hs, hl], hrel⟩
      · cases hp

def retCell (st : FS Ω) : Nat × Option (Option Nat) → Option PV
  | (t, none) => some (canon (st.rd (.t t)))
  | (t, some n) => (st.loadV n (st.rd (.t t))).map canon

theorem rets_run {st : FS Ω} {a : Act} {E : Env} {τ : Nat → Tag} (hI : Inv O N st a E τ) : ∀ {rs : List ResultVar} {qs : List (Nat × Option (Option Nat))} {ps : List PV}, chkRets P rs qs = true → qs.mapM (retCell st) = some ps →
    ∃ vs, (rs.mapM (resVal P a.tmps)).run P E.w = .ok vs E.w ∧ RVs E ps vs
  | [], [], ps, _, h => by
    simp at h
    subst h
    exact ⟨[], rfl, .nil⟩
  | [], _ :: _, _, h, _ => by simp [chkRets] at h
  | .tmp _ :: _, [], _, h, _ => by simp [chkRets] at h
  | .cell _ _ :: _, [], _, h, _ => by simp [chkRets] at h
  | .tmp t :: rs, (t', none) :: qs, ps, hk, h => by
    simp only [chkRets, Bool.and_eq_true] at hk
    have ht := Nat.eq_of_beq_eq_true hk.1
    subst ht
    simp only [List.mapM_cons, retCell, Option.bind_eq_bind, Option.bind_some] at h
    rw [Option.bind_eq_some_iff] at h
    obtain ⟨ps', hps', h⟩ := h
    simp only [Option.pure_def, Option.some.injEq] at h
    subst h
    obtain ⟨vs, h1, h2⟩ := rets_run hI hk.2 hps'
    refine ⟨a.tmps.getD t Go.undef :: vs, ?_, .cons (hI.slots t).canon h2⟩
    rw [List.mapM_cons]
    simp [resVal, h1]
  | .cell t ty :: rs, (t', some n) :: qs, ps, hk, h => by
    simp only [chkRets, Bool.and_eq_true] at hk
    have ht := Nat.eq_of_beq_eq_true hk.1
    subst ht
    simp only [List.mapM_cons, retCell, Option.bind_eq_bind] at h
    rw [Option.bind_eq_some_iff] at h
    obtain ⟨p, hp, h⟩ := h
    rw [Option.map_eq_some_iff] at hp
    obtain ⟨p0, hp0, rfl⟩ := hp
    rw [Option.bind_eq_some_iff] at h
    obtain ⟨ps', hps', h⟩ := h
    simp only [Option.pure_def, Option.some.injEq] at h
    subst h
    obtain ⟨vs, h1, h2⟩ := rets_run hI hk.2.2 hps'
    obtain ⟨ad, v, e1, e2, e3⟩ := load_val hI hk.2.1 (hI.slots t) hp0
    refine ⟨v :: vs, ?_, .cons e3.canon h2⟩
    rw [List.mapM_cons]
    simp only [resVal, e1, asAddr]
    simp [e2, h1]
  | .tmp _ :: _, (_, some _) :: _, _, h, _ => by simp [chkRets] at h
  | .cell _ _ :: _, (_, none) :: _, _, h, _ => by simp [chkRets] at h
end Go.Fw
end
section
/- Functions, II: what a frame answers at its end. -/
namespace Go.Fw
variable {Ω : Type} {O : OpqSem Ω} {N : Nat} {P : Program} {RO : Nat → Bool} {Γ : Orc Ω}

def chkRes (P : Program) (rs : List ResultVar) (qs : List (Nat × Option (Option Nat))) (gives : Bool) : Bool :=
  chkRets P rs qs && (!gives || (match qs with | [(_, none)] => true | _ => false))

theorem results_run {w : World} {fn : Func} {tmps : Array Value} {vs : List Value} (h : (fn.results.toList.mapM (resVal P tmps)).run P w = .ok vs w) :
    (results fn tmps).run P w = .ok (match vs with | [v] => v | vs => .tuple ⟨vs⟩) w := by
  have e : results fn tmps = (do let vs ← fn.results.mapM (resVal P tmps); pure (if h : vs.size = 1 then vs[0] else .tuple vs)) := by
    unfold results
    congr 1
  rw [e, Array.mapM_eq_mapM_toList]
  simp only [Sem.run_bind, Sem.run_map, h]
  cases vs with
  | nil => rfl
  | cons v vs =>
    cases vs with
    | nil => rfl
    | cons u vs => rfl

theorem mapM_retCell {st : FS Ω} {qs : List (Nat × Option (Option Nat))} {p : PV} (h : retVal qs false st = some p) : ∃ ps, qs.mapM (retCell st) = some ps ∧ p = match ps with | [v] => v | vs => .tup vs := by
  have e : (fun (q : Nat × Option (Option Nat)) => match q with | (t, c) => match c with
      | none => some (canon (st.rd (.t t)))
      | some n => (st.loadV n (st.rd (.t t))).map canon) = retCell st := by
    funext q
    obtain ⟨t, c⟩ := q
    cases c <;> rfl
  unfold retVal at h
  split at h
  · rename_i t
    simp only [Bool.false_eq_true, if_false, Option.some.injEq] at h
    exact ⟨[canon (st.rd (.t t))], by simp [retCell], h.symm⟩
  · rw [Option.map_eq_some_iff] at h
    obtain ⟨ps, h1, h2⟩ := h
    exact ⟨ps, by rw [← e]; exact h1, h2.symm⟩

/-- What the results are, as values. -/
theorem retVal_run {st : FS Ω} {a : Act} {E : Env} {τ : Nat → Tag} (hI : Inv O N st a E τ) {fn : Func} {qs : List (Nat × Option (Option Nat))} {gives : Bool} (hk : chkRes P fn.results.toList qs gives = true) {p : PV} (h : retVal qs gives st = some p) :
    ∃ v, (results fn a.tmps).run P E.w = .ok v E.w ∧ RV E p v ∧ (noFlag p = true ∨ ∃ t z es, qs = [(t, none)] ∧ p = .sl .own z es ∧ Right E.w E.σ τ (.slot t) z es v) := by
  simp only [chkRes, Bool.and_eq_true, Bool.or_eq_true, Bool.not_eq_true'] at hk
  obtain ⟨hk1, hk2⟩ := hk
  cases gives with
  | false =>
    obtain ⟨ps, h1, rfl⟩ := mapM_retCell h
    obtain ⟨vs, h2, h3⟩ := rets_run hI hk1 h1
    refine ⟨_, results_run h2, ?_, .inl ?_⟩
    · cases h3 with
      | nil => exact .tup .nil
      | cons hp hs => cases hs with
        | nil => exact hp
        | cons hq hs => exact .tup (.cons hp (.cons hq hs))
    · have hc : ∀ {qs : List (Nat × Option (Option Nat))} {ps : List PV}, qs.mapM (retCell st) = some ps → ∀ p ∈ ps, noFlag p = true := by
        intro qs
        induction qs with
        | nil => intro ps h p hp; simp at h; subst h; cases hp
        | cons q qs ih =>
          intro ps h p hp
          simp only [List.mapM_cons, Option.bind_eq_bind] at h
          rw [Option.bind_eq_some_iff] at h
          obtain ⟨p0, hp0, h⟩ := h
          rw [Option.bind_eq_some_iff] at h
          obtain ⟨ps', hps', h⟩ := h
          simp only [Option.pure_def, Option.some.injEq] at h
          subst h
          cases hp with
          | head =>
            obtain ⟨t, c⟩ := q
            cases c with
            | none => simp only [retCell, Option.some.injEq] at hp0; rw [← hp0]; exact noFlag_canon _
            | some n =>
              simp only [retCell, Option.map_eq_some_iff] at hp0
              obtain ⟨p1, _, rfl⟩ := hp0
              exact noFlag_canon _
          | tail _ hp => exact ih hps' p hp
      cases ps with
      | nil => rfl
      | cons p ps => cases ps with
        | nil => exact hc h1 p (by simp)
        | cons q ps => rfl
  | true =>
    rcases hk2 with hk2 | hk2
    · cases hk2
    · split at hk2
      · rename_i t
        simp only [retVal, if_true] at h
        have hv := hI.slots t
        obtain ⟨vs, h2, h3⟩ := rets_run (ps := [canon (st.rd (.t t))]) hI hk1 (by simp [retCell])
        have hrun : (fn.results.toList.mapM (resVal P a.tmps)).run P E.w = .ok [a.tmps.getD t Go.undef] E.w := by
          generalize fn.results.toList = rs at hk1 h2
          cases rs with
          | nil => simp [chkRets] at hk1
          | cons r rs =>
            cases r with
            | cell _ _ => simp [chkRets] at hk1
            | tmp t' =>
              cases rs with
              | cons _ _ => simp [chkRets] at hk1
              | nil =>
                simp only [chkRets, Bool.and_eq_true] at hk1
                rw [Nat.eq_of_beq_eq_true hk1.1]
                rw [List.mapM_cons]
                simp [resVal]
        refine ⟨a.tmps.getD t Go.undef, results_run hrun, ?_⟩
        have hq : st.rd (.t t) = getS st.sl t := rfl
        rw [hq] at h
        split at h
        · rename_i z es hs
          simp only [Option.some.injEq] at h
          subst h
          rw [hs] at hv
          exact ⟨hv, .inr ⟨t, z, es, rfl, rfl, hI.rights t z es hs⟩⟩
        · rename_i z es hs
          simp only [Option.some.injEq] at h
          subst h
          rw [hs] at hv
          refine ⟨.pure (hv.sl_inv.reflag (by simp)), .inr ⟨t, z, es, rfl, rfl, ?_⟩⟩
          rcases hv.sl_inv.sl_inv with ⟨h1, h2⟩ | ⟨_, _, _, _, hf, _⟩ | ⟨_, _, _, _, hf⟩
          · exact .inl ⟨h1, h2⟩
          · exact absurd rfl hf
          · exact absurd rfl hf
        · cases h
      · cases hk2
end Go.Fw
end
section
/- Functions, III. -/
namespace Go.Fw
variable {Ω : Type} {O : OpqSem Ω} {N : Nat} {P : Program} {RO : Nat → Bool} {Γ : Orc Ω}

mutual
/-- What bears no pointer of the frame may leave it. -/
theorem RV.leave {E E' : Env} (h : SExt E.w E.σ E'.w E'.σ) (hf : E'.fr = E.fr) : ∀ {p : PV} {v : Value}, RV E p v → pfr p = true → RV E' p v
  | _, _, .pure hp, _ => .pure (hp.mono h)
  | _, _, .agg hs, hp => .agg (RVs.leave h hf hs (by simpa [pfr] using hp))
  | _, _, .tup hs, hp => .tup (RVs.leave h hf hs (by simpa [pfr] using hp))
  | _, _, .clo ha hb, hp => by
    simp only [pfr, Bool.and_eq_true] at hp
    exact .pure (.clo (RPs.mono h (ha.toPure hp.1)) (RPs.mono h (hb.toPure hp.2)))
  | _, _, .own k off, hp => by simp [pfr] at hp
  | _, _, .ptr _ k off, hp => by simp [pfr] at hp
  | _, _, .fresh off, _ => by rw [← hf]; exact .fresh off
  | _, _, .elp .., hp => by simp [pfr] at hp
theorem RVs.leave {E E' : Env} (h : SExt E.w E.σ E'.w E'.σ) (hf : E'.fr = E.fr) : ∀ {ps : List PV} {vs : List Value}, RVs E ps vs → pfrs ps = true → RVs E' ps vs
  | _, _, .nil, _ => .nil
  | _, _, .cons hp hs, h2 => by
    simp only [pfrs, Bool.and_eq_true] at h2
    exact .cons (RV.leave h hf hp h2.1) (RVs.leave h hf hs h2.2)
end

mutual
theorem freshed_pf (k : Nat) : ∀ p : PV, pf p = true → freshed k p = p
  | .agg cs, h => by simp only [pf] at h; simp only [freshed]; rw [fresheds_pfs k cs h]
  | .tup cs, h => by simp only [pf] at h; simp only [freshed]; rw [fresheds_pfs k cs h]
  | .own .., h => by simp [pf] at h
  | .undef, _ | .sc _, _ | .sl .., _ | .ptr .., _ | .elp .., _ | .fresh _, _ | .clo .., _ => rfl
theorem fresheds_pfs (k : Nat) : ∀ ps : List PV, pfs ps = true → fresheds k ps = ps
  | [], _ => rfl
  | p :: ps, h => by
    simp only [pfs, Bool.and_eq_true] at h
    simp only [fresheds]
    rw [freshed_pf k p h.1, fresheds_pfs k ps h.2]
end

mutual
/-- The frame's own box, as a fresh one. -/
theorem RV.freshed {E E' : Env} {k : Nat} {D : List Nat} (h : SExt E.w E.σ E'.w E'.σ) (hf : E'.fr = E.μ E.me k) : ∀ {p : PV} {v : Value}, RV E p v → ownSub D p = true → pfr (freshed k p) = true → RV E' (freshed k p) v
  | _, _, .pure hp, _, _ => by rw [freshed_pf k _ hp.pf]; exact .pure (hp.mono h)
  | _, _, .agg hs, ho, hp => .agg (RVs.freshed h hf hs (by simpa [ownSub] using ho) (by simpa [Go.Fw.freshed, pfr] using hp))
  | _, _, .tup hs, ho, hp => .tup (RVs.freshed h hf hs (by simpa [ownSub] using ho) (by simpa [Go.Fw.freshed, pfr] using hp))
  | _, _, .clo ha hb, _, hp => by
    simp only [Go.Fw.freshed, pfr, Bool.and_eq_true] at hp
    exact .pure (.clo (RPs.mono h (ha.toPure hp.1)) (RPs.mono h (hb.toPure hp.2)))
  | _, _, .own k' off, _, hp => by
    simp only [Go.Fw.freshed] at hp ⊢
    split at hp
    · rename_i hb
      rw [if_pos hb, ← Nat.eq_of_beq_eq_true hb, ← hf]
      exact .fresh off
    · simp [pfr] at hp
  | _, _, .ptr _ k off, _, hp => by simp [Go.Fw.freshed, pfr] at hp
  | _, _, .fresh off, ho, _ => by simp [ownSub] at ho
  | _, _, .elp .., _, hp => by simp [Go.Fw.freshed, pfr] at hp
theorem RVs.freshed {E E' : Env} {k : Nat} {D : List Nat} (h : SExt E.w E.σ E'.w E'.σ) (hf : E'.fr = E.μ E.me k) : ∀ {ps : List PV} {vs : List Value}, RVs E ps vs → ownSubs D ps = true → pfrs (fresheds k ps) = true → RVs E' (fresheds k ps) vs
  | _, _, .nil, _, _ => .nil
  | _, _, .cons hp hs, ho, h2 => by
    simp only [ownSubs, Bool.and_eq_true] at ho
    simp only [fresheds, pfrs, Bool.and_eq_true] at h2
    exact .cons (RV.freshed h hf hp ho.1 h2.1) (RVs.freshed h hf hs ho.2 h2.2)
end

/-- The tags behind a frame: 'g' goes to the caller. -/
def leaves (m : Nat) (g : Tag) (τ : Nat → Tag) : Nat → Tag := fun b => if okTag m (τ b) then τ b else if τ b = g then .ret else .frn

theorem retVal_own {st : FS Ω} {a : Act} {E : Env} {τ : Nat → Tag} (hI : Inv O N st a E τ) {qs : List (Nat × Option (Option Nat))} {gives : Bool} {p : PV} (h : retVal qs gives st = some p) : ownSub (keys st.L) p = true := by
  have hcell : ∀ {q : Nat × Option (Option Nat)} {p : PV}, retCell st q = some p → ownSub (keys st.L) p = true := by
    intro q p h
    obtain ⟨t, c⟩ := q
    cases c with
    | none => simp only [retCell, Option.some.injEq] at h; rw [← h, ownSub_canon]; exact hI.wfs t
    | some n =>
      simp only [retCell, Option.map_eq_some_iff] at h
      obtain ⟨p0, hp0, rfl⟩ := h
      rw [ownSub_canon]
      have hnil : ownSub [] p0 = true := by
        generalize hq : st.rd (.t t) = q at hp0
        have hv := hI.slots t
        have hq' : getS st.sl t = q := hq
        rw [hq'] at hv
        by_cases hel : ∃ z es i off, q = .elp z es i off
        · obtain ⟨z, es, i, off, rfl⟩ := hel
          obtain ⟨b, o, he, hi, hok, hrc⟩ := hv.elp_inv
          simp only [FS.loadV] at hp0
          split at hp0
          · rename_i cs hcs
            obtain ⟨vs, hvs, _⟩ := (RC.elem hok hrc hcs).all
            exact part_own (ownSubs_pfs _ hvs.pfs) hp0
          · cases hp0
        · have hbox : ∃ cs off src, st.box? q = some (cs, off, src) ∧ ((n = none ∧ (cs[off]?).map (loaded (src off)) = some p0) ∨ ∃ m, n = some m ∧ Go.Fw.part (some m) off cs = some p0) := by
            cases q with
            | elp z es i off => exact absurd ⟨z, es, i, off, rfl⟩ hel
            | _ =>
              simp only [FS.loadV] at hp0
              split at hp0
              · rename_i cs off src hb
                refine ⟨cs, off, src, hb, ?_⟩
                cases n with
                | none => exact .inl ⟨rfl, hp0⟩
                | some m => exact .inr ⟨m, rfl, hp0⟩
              · cases hp0
          obtain ⟨cs, off, src, hb, hp⟩ := hbox
          obtain ⟨d, k, he, hdme, hc, hcase⟩ := box_ok hI hv hb
          obtain ⟨_, _, ho, _⟩ := hc
          rcases hp with ⟨rfl, hp⟩ | ⟨m, rfl, hp⟩
          · rw [Option.map_eq_some_iff] at hp
            obtain ⟨u, hu, rfl⟩ := hp
            rw [ownSub_loaded]; exact ownSubs_get ho hu
          · exact part_own ho hp
      exact ownSub_mono (fun k hk => by cases hk) _ hnil
  cases gives with
  | false =>
    obtain ⟨ps, h1, rfl⟩ := mapM_retCell h
    have hall : ∀ {qs : List (Nat × Option (Option Nat))} {ps : List PV}, qs.mapM (retCell st) = some ps → ownSubs (keys st.L) ps = true := by
      intro qs
      induction qs with
      | nil => intro ps h; simp at h; subst h; rfl
      | cons q qs ih =>
        intro ps h
        simp only [List.mapM_cons, Option.bind_eq_bind] at h
        rw [Option.bind_eq_some_iff] at h
        obtain ⟨p0, hp0, h⟩ := h
        rw [Option.bind_eq_some_iff] at h
        obtain ⟨ps', hps', h⟩ := h
        simp only [Option.pure_def, Option.some.injEq] at h
        subst h
        simp only [ownSubs, Bool.and_eq_true]
        exact ⟨hcell hp0, ih hps'⟩
    have h2 := hall h1
    cases ps with
    | nil => rfl
    | cons p ps => cases ps with
      | nil => simpa [ownSubs] using h2
      | cons q ps => exact h2
  | true =>
    unfold retVal at h
    split at h
    · simp only [if_true] at h
      split at h
      · simp only [Option.some.injEq] at h; rw [← h]; rfl
      · simp only [Option.some.injEq] at h; rw [← h]; rfl
      · cases h
    · -- as without
      rename_i hne
      have h' : retVal qs false st = some p := by
        unfold retVal
        split
        · exact absurd rfl (hne _)
        · exact h
      obtain ⟨ps, h1, rfl⟩ := mapM_retCell h'
      have hall : ∀ {qs : List (Nat × Option (Option Nat))} {ps : List PV}, qs.mapM (retCell st) = some ps → ownSubs (keys st.L) ps = true := by
        intro qs
        induction qs with
        | nil => intro ps h; simp at h; subst h; rfl
        | cons q qs ih =>
          intro ps h
          simp only [List.mapM_cons, Option.bind_eq_bind] at h
          rw [Option.bind_eq_some_iff] at h
          obtain ⟨p0, hp0, h⟩ := h
          rw [Option.bind_eq_some_iff] at h
          obtain ⟨ps', hps', h⟩ := h
          simp only [Option.pure_def, Option.some.injEq] at h
          subst h
          simp only [ownSubs, Bool.and_eq_true]
          exact ⟨hcell hp0, ih hps'⟩
      have h2 := hall h1
      cases ps with
      | nil => rfl
      | cons p ps => cases ps with
        | nil => simpa [ownSubs] using h2
        | cons q ps => exact h2
end Go.Fw
end
section
/- Functions, IV: a frame's end. -/
namespace Go.Fw
variable {Ω : Type} {O : OpqSem Ω} {N : Nat} {P : Program} {RO : Nat → Bool} {Γ : Orc Ω}

theorem leaves_ok {m : Nat} {g : Tag} {τ : Nat → Tag} {b : Nat} {t : Tag} (h : τ b = t) (ht : okTag m t = true) : leaves m g τ b = t := by unfold leaves; rw [h, if_pos ht]
theorem leaves_g {m : Nat} {g : Tag} {τ : Nat → Tag} {b : Nat} (h : τ b = g) (hg : okTag m g = false) : leaves m g τ b = .ret := by unfold leaves; rw [h, hg]; simp

theorem freshed_flag (k : Nat) (p : PV) (h : ownIn p ≠ none) : noFlag (freshed k p) = true := by
  cases p with
  | sl f z es => exact absurd rfl h
  | own k' off => simp only [freshed]; split <;> rfl
  | _ => rfl

theorem canons_own : ∀ {cs : List PV} {off z : Nat} {es : List (List PV)}, (canons cs)[off]? ≠ some (PV.sl .own z es)
  | [], _, _, _ => by simp [canons]
  | p :: ps, 0, z, es => by
    simp only [canons, List.getElem?_cons_zero, ne_eq, Option.some.injEq]
    intro h
    have := noFlag_canon p
    rw [h] at this; cases this
  | p :: ps, off + 1, z, es => by simp only [canons, List.getElem?_cons_succ]; exact canons_own

/-- What a frame leaves at its end. -/
theorem end_ok {st : FS Ω} {a : Act} {E E1 : Env} {τ τ1 : Nat → Tag} (hI : Inv O N st a E1 τ1) (hst : Step E E1 τ τ1) {fn : Func} {qs : List (Nat × Option (Option Nat))} {gives : Bool} (hk : chkRes P fn.results.toList qs gives = true)
    {r : Ret Ω} (h : retOf qs gives st = some r) : ∃ v, (results fn a.tmps).run P E1.w = .ok v E1.w ∧ ∃ E' τ', E'.w = E1.w ∧ RetOK O r E τ v E' τ' := by
  unfold retOf at h
  split at h
  · cases h
  · rename_i p hp
    obtain ⟨v, hrun, hv, hfl⟩ := retVal_run hI hk hp
    have hown := retVal_own hI hp
    refine ⟨v, hrun, ?_⟩
    have hme : E1.me = E.me := hst.me
    have hframes : ∀ {g : Tag} {fr : Nat} (d : Nat) (F : Fr Ω), st.S[d]? = some F → d < E.me → ∀ k c, look F k = some c → CelRel O { w := E1.w, σ := E1.σ, μ := E.μ, me := E.me, fr := fr } (leaves E.me g τ1) d k c := by
      intro g fr d F hF hd k c hc
      refine CelRel.convμ (E := E1) rfl rfl (fun e j he => (hst.μ e j (by omega)).symm) ?_ (hI.frames d F hF k c hc)
      rintro b t hb (rfl | rfl | ⟨off, rfl⟩)
      all_goals exact leaves_ok hb (by simp only [okTag]; rw [Nat.blt_eq]; exact hd)
    have hext : ∀ {g : Tag}, FExt E.w E.σ τ E1.w E1.σ (leaves E.me g τ1) := by
      intro g
      refine ⟨hst.ext.size, hst.ext.sext, fun b hb hτ => ?_, hst.ext.os, hst.ext.tape, hst.ext.output, hst.ext.drawn⟩
      obtain ⟨h1, h2, h3⟩ := hst.ext.keep b hb hτ
      exact ⟨h1, leaves_ok h2 rfl, h3⟩
    have htags : ∀ {g : Tag} (b : Nat), okTagR E.me (leaves E.me g τ1 b) = true := by
      intro g b
      unfold leaves
      split
      · rename_i h
        generalize τ1 b = t at h
        cases t <;> first | exact h | rfl
      · split <;> rfl
    have hfresh : ∀ {g : Tag} (b : Nat), E1.w.heap.size ≤ b → E1.σ b = 0 ∧ leaves E.me g τ1 b = .frn := fun b hb => ⟨(hI.fresh b hb).1, leaves_ok (hI.fresh b hb).2 rfl⟩
    have hnal : ∀ s z es, p ≠ .sl (.al s) z es := by
      rintro s z es rfl
      rcases hfl with h | ⟨t, z', es', _, h, _⟩
      · cases h
      · cases h
    split at h
    · rename_i hoi
      split at h
      · rename_i hpf
        simp only [Option.some.injEq] at h
        subst h
        -- which tag goes out
        have hg : ∃ g, ∀ z es, p = .sl .own z es → Right E1.w E1.σ (leaves E.me g τ1) .ret z es v := by
          rcases hfl with h | ⟨t, z, es, _, rfl, hR⟩
          · exact ⟨.frn, by rintro z es rfl; cases h⟩
          · refine ⟨.slot t, ?_⟩
            intro z' es' e
            injection e with _ e1 e2
            subst e1 e2
            rcases hR with h | ⟨b, cap, c, ty, h1, h2, h3, h4, h5⟩
            · exact .inl h
            · exact .inr ⟨b, cap, c, ty, h1, leaves_g h2 rfl, h3, h4, h5⟩
        obtain ⟨g, hg⟩ := hg
        refine ⟨{ w := E1.w, σ := E1.σ, μ := E.μ, me := E.me, fr := E1.fr }, leaves E.me g τ1, rfl, ⟨hext, rfl, rfl, hframes, ?_, hpf, hnal, hg, ?_, htags, hfresh⟩⟩
        · exact RV.leave (E := E1) (E' := { w := E1.w, σ := E1.σ, μ := E.μ, me := E.me, fr := E1.fr }) (.refl _ _) rfl hv hpf
        · intro c hc; cases hc
      · cases h
    · rename_i k hoi
      have hko : ownIn p ≠ none := by rw [hoi]; intro h; cases h
      have hnown : ∀ z es, freshed k p ≠ .sl .own z es := by
        intro z es e
        have := freshed_flag k p hko
        rw [e] at this; cases this
      have hnal2 : ∀ s z es, freshed k p ≠ .sl (.al s) z es := by
        intro s z es e
        have := freshed_flag k p hko
        rw [e] at this; cases this
      split at h
      · rename_i cs hl
        split at h
        · rename_i hcond
          simp only [Bool.and_eq_true, pfrs, Bool.and_true] at hcond
          obtain ⟨hpf, hcs⟩ := hcond
          simp only [Option.some.injEq] at h
          subst h
          obtain ⟨h1, h2, h3, vs, ty, h4, h5, _⟩ := hI.mine k _ hl
          refine ⟨{ w := E1.w, σ := E1.σ, μ := E.μ, me := E.me, fr := E1.μ E1.me k }, leaves E.me (.box E.me k) τ1, rfl, ⟨hext, rfl, rfl, hframes, ?_, hpf, hnal2, fun z es e => absurd e (hnown z es), ?_, htags, hfresh⟩⟩
          · exact RV.freshed (E := E1) (E' := { w := E1.w, σ := E1.σ, μ := E.μ, me := E.me, fr := E1.μ E1.me k }) (.refl _ _) rfl hv hown hpf
          · intro c hc
            simp only [Option.some.injEq] at hc
            subst hc
            refine ⟨freshed_flag k p hko, ?_, h2, fun off z es => canons_own, vs, ty, h4, (RVs.toPure h5 hcs).canons⟩
            exact leaves_g (by rw [← hme]; exact h1) (by simp only [okTag]; cases e : Nat.blt E.me E.me with | false => rfl | true => rw [Nat.blt_eq] at e; omega)
        · cases h
      · rename_i x hl
        split at h
        · rename_i hpf
          simp only [pfrs, Bool.and_true] at hpf
          simp only [Option.some.injEq] at h
          subst h
          obtain ⟨foot, h1, h2⟩ := hI.mine k _ hl
          refine ⟨{ w := E1.w, σ := E1.σ, μ := E.μ, me := E.me, fr := E1.μ E1.me k }, leaves E.me (.opq E.me k) τ1, rfl, ⟨hext, rfl, rfl, hframes, ?_, hpf, hnal2, fun z es e => absurd e (hnown z es), ?_, htags, hfresh⟩⟩
          · exact RV.freshed (E := E1) (E' := { w := E1.w, σ := E1.σ, μ := E.μ, me := E.me, fr := E1.μ E1.me k }) (.refl _ _) rfl hv hown hpf
          · intro c hc
            simp only [Option.some.injEq] at hc
            subst hc
            refine ⟨freshed_flag k p hko, foot, h1, fun b hb => ⟨?_, (h2 b hb).2⟩⟩
            exact leaves_g (by rw [← hme]; exact (h2 b hb).1) (by simp only [okTag]; cases e : Nat.blt E.me E.me with | false => rfl | true => rw [Nat.blt_eq] at e; omega)
        · cases h
      · cases h
end Go.Fw
end
section
/- Functions, V: the functions do what their meaning says. -/
namespace Go.Fw
variable {Ω : Type} {O : OpqSem Ω} {P : Program} {RO : Nat → Bool}

/-- The annotated function belongs to the function. -/
structure FnChk (P : Program) (RO : Nat → Bool) (f : Nat) (ifn : IFunc) : Prop where
  ex : ∃ fn c, P.funcs[f]? = some fn ∧ fn.body = some c ∧ (fn.name == "runtime.NumGoroutine") = false ∧ chkCode P RO fn.ntmps c ifn.body = true ∧ chkRes P fn.results.toList ifn.rets ifn.gives = true

/-- A thing proved by hand does what it says. -/
def PrimOK (P : Program) (O : OpqSem Ω) (f : Nat) (p : List PV → List (Fr Ω) → Option (Ret Ω)) : Prop :=
  ∀ vs S r, p vs S = some r → ∀ (E : Env) (τ : Nat → Tag) (args : List Value), CallIn O vs S E τ args → Runs P f ⟨args⟩ E.w fun v w' => ∃ E' τ', E'.w = w' ∧ RetOK O r E τ v E' τ'

theorem look_number : ∀ (vs : List PV) (k t : Nat), look (number k vs) t = if k ≤ t then vs[t - k]? else none
  | [], k, t => by simp [number, look]
  | v :: vs, k, t => by
    simp only [number, look_cons1', look_number vs (k + 1) t]
    by_cases h : t = k
    · subst h; simp
    · rw [if_neg h]
      by_cases h2 : k + 1 ≤ t
      · rw [if_pos h2, if_pos (by omega), show t - k = (t - (k + 1)) + 1 by omega, List.getElem?_cons_succ]
      · rw [if_neg h2, if_neg (by omega)]

theorem noFlags_get : ∀ {vs : List PV} {i : Nat} {p : PV}, noFlags vs = true → vs[i]? = some p → noFlag p = true
  | p :: ps, 0, q, h, e => by simp only [noFlags, Bool.and_eq_true] at h; simp at e; rw [← e]; exact h.1
  | p :: ps, i + 1, q, h, e => by simp only [noFlags, Bool.and_eq_true] at h; exact noFlags_get h.2 (by simpa using e)
  | [], _, _, _, e => by simp at e

/-- A frame at its start. -/
theorem init_inv {vs : List PV} {S : List (Fr Ω)} {E : Env} {τ : Nat → Tag} {args : List Value} (h : CallIn O vs S E τ args) (n : Nat) :
    Inv O n (initFS vs S) { tmps := (⟨args⟩ : Array Value) ++ Array.replicate (n - (⟨args⟩ : Array Value).size) Go.undef, defers := [] } E τ := by
  have hl := h.vals.length
  have hg : ∀ t, getS (number 0 vs) t = (vs[t]?).getD .undef := by
    intro t
    unfold getS
    rw [look_number]
    simp only [Nat.zero_le, if_true, Nat.sub_zero]
    cases vs[t]? <;> rfl
  have hnf : ∀ t, noFlag (getS (number 0 vs) t) = true := by
    intro t
    rw [hg]
    cases e : vs[t]? with
    | none => rfl
    | some p => exact noFlags_get h.flags e
  have hno : ∀ {t z es f}, getS (number 0 vs) t = .sl f z es → f = .no ∨ f = .nil := by
    intro t z es f e
    have := hnf t
    rw [e] at this
    cases f <;> first | exact .inl rfl | exact .inr rfl | cases this
  constructor
  · exact h.me
  · rfl
  · simp; omega
  · intro t
    show RV E (getS (number 0 vs) t) _
    rw [hg]
    cases e : vs[t]? with
    | none => exact .pure (.undef _)
    | some p =>
      obtain ⟨v, hv, hr⟩ := h.vals.get e
      have ht : t < args.length := (List.getElem?_eq_some_iff.1 hv).1
      have : ((⟨args⟩ : Array Value) ++ Array.replicate (n - (⟨args⟩ : Array Value).size) Go.undef).getD t Go.undef = v := by
        rw [Array.getD_eq_getD_getElem?, Array.getElem?_append_left (by simpa using ht)]
        simp [hv]
      rw [this]
      exact hr
  · exact h.frames
  · intro k c hc; cases hc
  · intro t
    show ownSub _ (getS (number 0 vs) t) = true
    rw [hg]
    cases e : vs[t]? with
    | none => rfl
    | some p => exact ownSub_mono (fun k hk => by cases hk) _ (ownSubs_get h.own e)
  · intro t z es hp; rcases hno hp with h | h <;> cases h
  · intro _ t x z es hp; rcases hno hp with h | h <;> cases h
  · intro _ t k off z es cs z' es' hp; rcases hno hp with h | h <;> cases h
  · intro _ t d k off z es F cs z' es' hp; rcases hno hp with h | h <;> cases h
  · exact h.fresh
  · intro t x z es hp; rcases hno hp with h | h <;> cases h

theorem fn_ok {Γ : Orc Ω} (hΓ : Sound P O Γ) (hRO : ROok RO Γ) (hm : P.follows .mixedOrders = true) {f : Nat} {ifn : IFunc} (hk : FnChk P RO f ifn) (n : Nat) {vs : List PV} {S : List (Fr Ω)} {r : Ret Ω}
    (h : (match den Γ n ifn.body (initFS vs S) with
      | some (.normal, st) | some (.ret, st) => retOf ifn.rets ifn.gives st
      | _ => none) = some r) {E : Env} {τ : Nat → Tag} {args : List Value} (hin : CallIn O vs S E τ args) : Runs P f ⟨args⟩ E.w fun v w' => ∃ E' τ', E'.w = w' ∧ RetOK O r E τ v E' τ' := by
  obtain ⟨fn, c, hf, hb, hname, hcode, hres⟩ := hk.ex
  have hrun : (callFunc f ⟨args⟩).run P E.w = .ok (.enter f ⟨args⟩) E.w := by
    have hname : ¬ fn.name = "runtime.NumGoroutine" := by intro e; rw [e] at hname; simp at hname
    simp [callFunc, hf, hname, hb]
  unfold Runs
  rw [hrun]
  refine calls_of_wp hf hb ?_
  have hI := init_inv hin fn.ntmps
  have hend : ∀ {st : FS Ω} {a' : Act} {E' : Env} {τ' : Nat → Tag}, retOf ifn.rets ifn.gives st = some r → Inv O fn.ntmps st a' E' τ' → Step E E' τ τ' →
      a'.defers = [] ∧ ∃ v, (results fn a'.tmps).run P E'.w = .ok v E'.w ∧ ∃ E2 τ2, E2.w = E'.w ∧ RetOK O r E τ v E2 τ2 := by
    intro st a' E' τ' hr hI' hs
    exact ⟨hI'.defers, end_ok hI' hs hres hr⟩
  split at h
  · rename_i st hst
    exact code_ok hΓ hRO hm n ifn.body c hcode _ .normal st hst _ E τ hI _ fun a' E' τ' hI' hs => hend h hI' hs
  · rename_i st hst
    exact code_ok hΓ hRO hm n ifn.body c hcode _ .ret st hst _ E τ hI _ fun a' E' τ' hI' hs => hend h hI' hs
  · cases h

/-- All functions. -/
structure TableOK (P : Program) (O : OpqSem Ω) (RO : Nat → Bool) (T : Nat → Option (Ent Ω)) : Prop where
  mixed : P.follows .mixedOrders = true
  fns : ∀ f fn, T f = some (.fn fn) → FnChk P RO f fn
  prims : ∀ f p, T f = some (.prim p) → PrimOK P O f p
  ro : ∀ f, RO f = true → ∃ p, T f = some (.prim p) ∧ ∀ vs S r, p vs S = some r → r.2.2 = S

theorem ro_interp {T : Nat → Option (Ent Ω)} (hT : TableOK P O RO T) (n : Nat) : ROok RO (interp T n) := by
  intro f hf vs S r hr
  obtain ⟨p, hp, h⟩ := hT.ro f hf
  cases n with
  | zero => cases hr
  | succ n =>
    simp only [interp, hp] at hr
    exact h vs S r hr

theorem sound_interp {T : Nat → Option (Ent Ω)} (hT : TableOK P O RO T) : ∀ n, Sound P O (interp T n)
  | 0 => fun _ _ _ _ h => by cases h
  | n + 1 => by
    intro f vs S r h E τ args hin
    have ih := sound_interp hT n
    simp only [interp] at h
    split at h
    · cases h
    · rename_i p hp
      exact hT.prims f p hp vs S r h E τ args hin
    · rename_i fn hfn
      exact fn_ok ih (ro_interp hT n) hT.mixed (hT.fns f fn hfn) n h hin

theorem sound_G {T : Nat → Option (Ent Ω)} (hT : TableOK P O RO T) : Sound P O (G T) := by
  intro f vs S r h E τ args hin
  obtain ⟨n, hn⟩ := of_G T h
  exact sound_interp hT n f vs S r hn E τ args hin
end Go.Fw
end
section
/- A function and its annotated form: one test. -/
namespace Go.Fw
def chkFn (P : Program) (RO : Nat → Bool) (fn : Func) (ifn : IFunc) : Bool :=
  match fn.body with
  | some c => !(fn.name == "runtime.NumGoroutine") && (chkCode P RO fn.ntmps c ifn.body && chkRes P fn.results.toList ifn.rets ifn.gives)
  | none => false
theorem FnChk.of {P : Program} {RO : Nat → Bool} {f : Nat} {fn : Func} {ifn : IFunc} (hf : P.funcs[f]? = some fn) (h : chkFn P RO fn ifn = true) : FnChk P RO f ifn := by
  unfold chkFn at h
  split at h
  · rename_i c hc
    simp only [Bool.and_eq_true, Bool.not_eq_true'] at h
    exact ⟨fn, c, hf, hc, h.1, h.2.1, h.2.2⟩
  · cases h
def noRO : Nat → Bool := fun _ => false
end Go.Fw
end
section
/- From a function's meaning to the statement of a law: what came in is sealed; nothing that was there has changed. -/
namespace Go.Fw
open Go.ChangeShapes Go.WideShapes Go.RowKit
variable {P : Program}

/-- All that lies there is sealed. -/
def sealAll (w : World) : Seal := fun b => match w.heap[b]? with
  | some (.cells c _ _) => c.size
  | _ => 0

theorem sealAll_of_cell {w : World} {b o : Nat} {v : Value} (h : w.cell? ⟨b, o, none⟩ = some v) : o < sealAll w b := by
  unfold World.cell? at h
  unfold sealAll
  simp only at h
  split at h
  · rename_i c t r hb
    rw [hb]
    simp only
    split at h
    · cases h
    · rename_i h'
      try simp at h
      have := (Array.getElem?_eq_some_iff.1 h).1
      exact this
  · cases h

theorem sealAll_fresh (w : World) (b : Nat) (h : w.heap.size ≤ b) : sealAll w b = 0 := by
  unfold sealAll
  rw [Array.getElem?_eq_none h]

section
variable {Ω : Type} {O : OpqSem Ω} {RO : Nat → Bool} {T : Nat → Option (Ent Ω)}

theorem runs_calls {f : FuncId} {fn : Func} {c : Code} (hf : P.funcs[f]? = some fn) (hb : fn.body = some c) (hname : (fn.name == "runtime.NumGoroutine") = false) {args : Array Value} {w : World} {R : Value → World → Prop} (h : Runs P f args w R) :
    Calls P f args w fun
      | .returned v, w' => R v w'
      | _, _ => False := by
  have hname : ¬ fn.name = "runtime.NumGoroutine" := by intro e; rw [e] at hname; simp at hname
  have hrun : (callFunc f args).run P w = .ok (.enter f args) w := by simp [callFunc, hf, hname, hb]
  unfold Runs at h
  rw [hrun] at h
  exact h

theorem callIn_of {vs : List PV} {args : List Value} {W : World} (hvs : RPs W (sealAll W) vs args) (hfl : noFlags vs = true) :
    CallIn O vs [] { w := W, σ := sealAll W, μ := fun _ _ => 0, me := 0, fr := 0 } (fun _ => .frn) args where
  me := rfl
  vals := .of_RPs hvs
  own := ownSubs_pfs _ hvs.pfs
  flags := hfl
  frames := fun d F h => by simp at h
  tags := fun _ => rfl
  fresh := fun b h => ⟨sealAll_fresh W b h, rfl⟩

/-- A call that is handed what came in. -/
theorem law_calls (hT : TableOK P O RO T) {f : FuncId} {fn : Func} {c : Code} (hf : P.funcs[f]? = some fn) (hb : fn.body = some c) (hname : (fn.name == "runtime.NumGoroutine") = false)
    {vs : List PV} {args : List Value} {W : World} (hvs : RPs W (sealAll W) vs args) (hfl : noFlags vs = true) (h : G T f vs [] = some (.sc (.bool true), none, [])) :
    Calls P f ⟨args⟩ W fun e W' => e = .returned (.bool true) ∧ Below W.heap.size W W' := by
  refine (runs_calls hf hb hname (sound_G hT f vs [] _ h _ _ _ (callIn_of hvs hfl))).mono fun e W' he => ?_
  cases e with
  | returned v =>
    obtain ⟨E', τ', rfl, hr⟩ := he
    have hv := hr.val.sc_inv
    subst hv
    exact ⟨rfl, hr.ext.os, hr.ext.tape, hr.ext.output, hr.ext.size, fun k hk => (hr.ext.keep k hk rfl).1⟩
  | _ => exact he.elim
end

section
variable {H : Type} {enc : TypeId × Value → H}

theorem trodAll_stays (hl : laidOutB P = true) {W W' : World} (hb : Below W.heap.size W W') {sp : Nat → Bool} :
    ∀ {ts : List TypeId} {vs : List Value} {ds : List (DataW H)} {ps : List MemPlace}, (∀ t ∈ ts, P.readableRec t = true ∧ t < P.types.size) →
      DataW.TrodAll enc P W 0 (fun _ => true) true ts vs ds ps → (∀ p ∈ ps, p.block < W.heap.size) → (∀ p ∈ ps, sp p.block = true) → DataW.TrodAll enc P W' 0 sp true ts vs ds ps
  | [], vs, ds, ps, _, h, _, _ => by
    obtain ⟨rfl, rfl, rfl⟩ := trodAll_nil h
    rfl
  | t :: ts, vs, ds, ps, ht, h, hlt, hs => by
    obtain ⟨v, vs', d, ds', p, q, rfl, rfl, rfl, h1, h2⟩ := trodAll_cons h
    have hp : ∀ x ∈ p, x ∈ p ++ q := fun x hx => List.mem_append_left _ hx
    have hq : ∀ x ∈ q, x ∈ p ++ q := fun x hx => List.mem_append_right _ hx
    obtain ⟨hr, hrow⟩ := ht t (by simp)
    exact ⟨p, q, WideElems.Trod_stays hl hr hrow h1 (fun x hx => hb.same (hlt x (hp x hx))) (fun x hx => hs x (hp x hx)),
      trodAll_stays hl hb (fun t h => ht t (by simp [h])) h2 (fun x hx => hlt x (hq x hx)) (fun x hx => hs x (hq x hx)), rfl⟩

/-- A law's post: true; the input reads as it did. -/
theorem law_post {f : Func} {s : ChangeSpec} {apart fresh handsOn again : Bool} {W W' : World} {args : Array Value} {ds gs : List (DataW H)} {before : List MemPlace} {b : TypeId}
    (hl : laidOutB P = true) (ht : ∀ t ∈ f.params.toList, P.readableRec t = true ∧ t < P.types.size) (hv : s.vars = []) (hrt : f.resultTypes = #[b]) (hbool : P.underlying b = some .bool)
    (hW : DataW.Whole enc P f.params.toList s.vars apart W args.toList ds gs before) (hs : s.fn H (ds ++ gs) = { results := [.lit (.bool true)], args := ds }) (hb : Below W.heap.size W W') :
    s.post enc P f apart fresh handsOn again W args (.bool true) W' := by
  have hlt : ∀ p ∈ before, p.block < W.heap.size := fun p hp => hW.lt p hp
  have hW0 := hW
  obtain ⟨p, q, hA, hV, rfl, hz, hn⟩ := hW
  rw [hv] at hV
  obtain ⟨rfl, rfl⟩ := trodVars_none hV
  simp only [List.append_nil] at hlt hz hn hs hW0
  have hargs : ∀ sp : Nat → Bool, (∀ x ∈ p, sp x.block = true) → DataW.TrodAll enc P W' 0 sp true f.params.toList args.toList ds p := fun sp h => trodAll_stays hl hb ht hA hlt h
  have hres : ∀ (b' : Nat) (sp : Nat → Bool) (hd : Bool), DataW.TrodAll enc P W' b' sp hd f.resultTypes.toList ((Value.bool true).resultList f.resultTypes.size) [.lit (.bool true)] [] := by
    intro b' sp hd
    rw [hrt]
    exact ⟨[], [], Go.RowKit.shut_bool hbool true, rfl, rfl⟩
  have hvars : ∀ sp : Nat → Bool, DataW.TrodVars enc P W' sp s.vars [] [] := fun sp => by rw [hv]; rfl
  have hold : ∀ x ∈ p, (fun b => decide (b < W.heap.size)) x.block = true := fun x hx => by simpa using hlt x hx
  refine ⟨ds, [], p, [], p, [], hW0, ?_, ?_, ?_, World.keptBut_mono (fun x hx => ⟨hx, ?_⟩) (hb.frame (· ∈ p)), fun _ => ?_⟩
  · simp only [List.append_nil, hs]; exact hres _ _ _
  · simp only [List.append_nil, hs]; exact hargs _ hold
  · simp only [List.append_nil, hs]; exact hvars _
  · simp; exact hx
  · refine ⟨Go.RowKit.ok_one hrt rfl (Go.RowKit.okWide_bool_mk hbool true), [.lit (.bool true)] ++ ds, [], [] ++ p, ⟨[] ++ p, [], trodAll_append (hargs (fun _ => true) (fun _ _ => rfl)) (hres 0 (fun _ => true) true), hvars _, by simp, ?_, ?_⟩, ?_⟩
    · intro b off hp
      have hp : MemPlace.cell b off ∈ p := hp
      rw [hb.frozen (hlt _ hp)]
      exact hz b off hp
    · intro ha
      exact hn ha
    · intro x hx _
      simpa using hx
end
end Go.Fw
end
