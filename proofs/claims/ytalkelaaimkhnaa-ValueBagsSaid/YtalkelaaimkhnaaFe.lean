/- Part 5 of 11 of what the statement leans on. Proved: gatepostlaw02.ValueBags returns true for every input, and the input reads behind the call as it read before; condition: none but the row's own cells. -/
import Derived.Test.YtalkelaaimkhnaaFd
import Derived.Below
import Derived.Laws.Rows
import Derived.Laws.StructEq
import Derived.Laws.Sem
import Derived.Laws.Slices
import Derived.ChangeKeysEq
set_option linter.all false
section
/- How pure values lie in the machine's memory. -/
namespace Go.Fw

/-- How many cells of a block, from its first on, never change any more. -/
abbrev Seal := Nat → Nat

structure SExt (w : World) (σ : Seal) (w' : World) (σ' : Seal) : Prop where
  le : ∀ b, σ b ≤ σ' b
  cell : ∀ b o, o < σ b → w'.cell? ⟨b, o, none⟩ = w.cell? ⟨b, o, none⟩

theorem SExt.refl (w : World) (σ : Seal) : SExt w σ w σ := ⟨fun _ => Nat.le_refl _, fun _ _ _ => rfl⟩
theorem SExt.trans {w w' w'' : World} {σ σ' σ'' : Seal} (h : SExt w σ w' σ') (k : SExt w' σ' w'' σ'') : SExt w σ w'' σ'' :=
  ⟨fun b => Nat.le_trans (h.le b) (k.le b), fun b o ho => (k.cell b o (Nat.lt_of_lt_of_le ho (h.le b))).trans (h.cell b o ho)⟩

def okEl (z : Nat) (e : List PV) : Prop := e.length = z ∧ cellsOK e = true

mutual
/-- A pure value, as a machine's value. -/
inductive RP (w : World) (σ : Seal) : PV → Value → Prop
  | undef (v : Value) : RP w σ .undef v
  | sc (v : Value) : RP w σ (.sc v) v
  | agg {cs : List PV} {vs : List Value} : RPs w σ cs vs → RP w σ (.agg cs) (.agg ⟨vs⟩)
  | tup {cs : List PV} {vs : List Value} : RPs w σ cs vs → RP w σ (.tup cs) (.tuple ⟨vs⟩)
  | nil (f : Fl) (z : Nat) : RP w σ (.sl f z []) (.slice none 0 0)
  | sl {f : Fl} {z : Nat} {es : List (List PV)} {b o cap : Nat} : f ≠ .nil → es.length ≤ cap → (∀ e ∈ es, okEl z e) → RC w σ b o es.flatten →
      RP w σ (.sl f z es) (.slice (some ⟨b, o, none⟩) es.length cap)
  /-- No element: it may lie anywhere. -/
  | mt {f : Fl} (z : Nat) (a : Addr) (cap : Nat) : f ≠ .nil → RP w σ (.sl f z []) (.slice (some a) 0 cap)
  | clo {f : Nat} {a b : List PV} {va vb : List Value} : RPs w σ a va → RPs w σ b vb → RP w σ (.clo f a b) (.func (.func f) ⟨va⟩ ⟨vb⟩)
inductive RPs (w : World) (σ : Seal) : List PV → List Value → Prop
  | nil : RPs w σ [] []
  | cons {p : PV} {v : Value} {ps : List PV} {vs : List Value} : RP w σ p v → RPs w σ ps vs → RPs w σ (p :: ps) (v :: vs)
/-- Cells in a row, sealed. -/
inductive RC (w : World) (σ : Seal) : Nat → Nat → List PV → Prop
  | nil (b o : Nat) : RC w σ b o []
  | cons {b o : Nat} {p : PV} {v : Value} {ps : List PV} : o < σ b → w.cell? ⟨b, o, none⟩ = some v → RP w σ p v → RC w σ b (o + 1) ps → RC w σ b o (p :: ps)
end

mutual
theorem RP.mono {w w' : World} {σ σ' : Seal} (h : SExt w σ w' σ') : ∀ {p : PV} {v : Value}, RP w σ p v → RP w' σ' p v
  | _, _, .undef v => .undef v
  | _, _, .sc v => .sc v
  | _, _, .agg hs => .agg (RPs.mono h hs)
  | _, _, .tup hs => .tup (RPs.mono h hs)
  | _, _, .nil f z => .nil f z
  | _, _, .sl hf hl he hc => .sl hf hl he (RC.mono h hc)
  | _, _, .mt z a cap hf => .mt z a cap hf
  | _, _, .clo ha hb => .clo (RPs.mono h ha) (RPs.mono h hb)
theorem RPs.mono {w w' : World} {σ σ' : Seal} (h : SExt w σ w' σ') : ∀ {ps : List PV} {vs : List Value}, RPs w σ ps vs → RPs w' σ' ps vs
  | _, _, .nil => .nil
  | _, _, .cons hp hs => .cons (RP.mono h hp) (RPs.mono h hs)
theorem RC.mono {w w' : World} {σ σ' : Seal} (h : SExt w σ w' σ') : ∀ {b o : Nat} {ps : List PV}, RC w σ b o ps → RC w' σ' b o ps
  | _, _, _, .nil b o => .nil b o
  | _, _, _, .cons ho hc hp hs => .cons (Nat.lt_of_lt_of_le ho (h.le _)) ((h.cell _ _ ho).trans hc) (RP.mono h hp) (RC.mono h hs)
end

/-- Where boxes lie ('μ'), which frame runs ('me'), where a fresh thing lies ('fr'). -/
structure Env where
  w : World
  σ : Seal
  μ : Nat → Nat → Nat
  me : Nat
  fr : Nat

mutual
inductive RV (E : Env) : PV → Value → Prop
  | pure {p : PV} {v : Value} : RP E.w E.σ p v → RV E p v
  | agg {cs : List PV} {vs : List Value} : RVs E cs vs → RV E (.agg cs) (.agg ⟨vs⟩)
  | tup {cs : List PV} {vs : List Value} : RVs E cs vs → RV E (.tup cs) (.tuple ⟨vs⟩)
  | clo {f : Nat} {a b : List PV} {va vb : List Value} : RVs E a va → RVs E b vb → RV E (.clo f a b) (.func (.func f) ⟨va⟩ ⟨vb⟩)
  | own (k off : Nat) : RV E (.own k off) (.pointer (some ⟨E.μ E.me k, off, none⟩))
  | ptr {d : Nat} (h : d < E.me) (k off : Nat) : RV E (.ptr d k off) (.pointer (some ⟨E.μ d k, off, none⟩))
  | fresh (off : Nat) : RV E (.fresh off) (.pointer (some ⟨E.fr, off, none⟩))
  | elp {z : Nat} {es : List (List PV)} {i off b o : Nat} : i < es.length → (∀ e ∈ es, okEl z e) → RC E.w E.σ b o es.flatten →
      RV E (.elp z es i off) (.pointer (some ⟨b, o + i * z + off, none⟩))
inductive RVs (E : Env) : List PV → List Value → Prop
  | nil : RVs E [] []
  | cons {p : PV} {v : Value} {ps : List PV} {vs : List Value} : RV E p v → RVs E ps vs → RVs E (p :: ps) (v :: vs)
end

theorem RVs.of_RPs {E : Env} : ∀ {ps : List PV} {vs : List Value}, RPs E.w E.σ ps vs → RVs E ps vs
  | _, _, .nil => .nil
  | _, _, .cons hp hs => .cons (.pure hp) (RVs.of_RPs hs)

def keys {α : Type} (l : List (Nat × α)) : List Nat := l.map (·.1)

theorem hasN_keys {α : Type} (l : List (Nat × α)) (k : Nat) : hasN (keys l) k = true ↔ ∃ c, look l k = some c := by
  induction l with
  | nil => simp [keys, hasN, look]
  | cons x r ih =>
    obtain ⟨j, u⟩ := x
    simp only [keys, List.map_cons, hasN, look] at ih ⊢
    by_cases h : Nat.beq k j = true
    · simp [h]
    · simp only [h, Bool.false_or]
      exact ih

mutual
/-- Later, and elsewhere: sealed memory has stayed; the boxes that are pointed to lie where they lay. -/
theorem RV.move {E E' : Env} (h : SExt E.w E.σ E'.w E'.σ) {D : List Nat} (hμ : ∀ k, hasN D k = true → E'.μ E.me k = E.μ E.me k) (hμ' : ∀ d k, d < E.me → E'.μ d k = E.μ d k)
    (hm : E'.me = E.me) : ∀ {p : PV} {v : Value}, RV E p v → ownSub D p = true → RV E' p v
  | _, _, .pure hp, _ => .pure (hp.mono h)
  | _, _, .agg hs, ho => .agg (RVs.move h hμ hμ' hm hs (by simpa [ownSub] using ho))
  | _, _, .tup hs, ho => .tup (RVs.move h hμ hμ' hm hs (by simpa [ownSub] using ho))
  | _, _, .clo ha hb, ho => by
    simp only [ownSub, Bool.and_eq_true] at ho
    exact .clo (RVs.move h hμ hμ' hm ha ho.1) (RVs.move h hμ hμ' hm hb ho.2)
  | _, _, .own k off, ho => by rw [← hμ k (by simpa [ownSub] using ho), ← hm]; exact .own k off
  | _, _, .ptr hd k off, _ => by rw [← hμ' _ k hd]; exact .ptr (by rw [hm]; exact hd) k off
  | _, _, .fresh off, ho => by simp [ownSub] at ho
  | _, _, .elp hi he hc, _ => .elp hi he (hc.mono h)
theorem RVs.move {E E' : Env} (h : SExt E.w E.σ E'.w E'.σ) {D : List Nat} (hμ : ∀ k, hasN D k = true → E'.μ E.me k = E.μ E.me k) (hμ' : ∀ d k, d < E.me → E'.μ d k = E.μ d k)
    (hm : E'.me = E.me) : ∀ {ps : List PV} {vs : List Value}, RVs E ps vs → ownSubs D ps = true → RVs E' ps vs
  | _, _, .nil, _ => .nil
  | _, _, .cons hp hs, ho => by
    simp only [ownSubs, Bool.and_eq_true] at ho
    exact .cons (RV.move h hμ hμ' hm hp ho.1) (RVs.move h hμ hμ' hm hs ho.2)
end

mutual
theorem RV.mono {E E' : Env} (h : SExt E.w E.σ E'.w E'.σ) (hμ : ∀ d k, d ≤ E.me → E'.μ d k = E.μ d k) (hm : E'.me = E.me) (hf : E'.fr = E.fr) :
    ∀ {p : PV} {v : Value}, RV E p v → RV E' p v
  | _, _, .pure hp => .pure (hp.mono h)
  | _, _, .agg hs => .agg (RVs.mono h hμ hm hf hs)
  | _, _, .tup hs => .tup (RVs.mono h hμ hm hf hs)
  | _, _, .clo ha hb => .clo (RVs.mono h hμ hm hf ha) (RVs.mono h hμ hm hf hb)
  | _, _, .own k off => by rw [← hμ _ k (Nat.le_refl _), ← hm]; exact .own k off
  | _, _, .ptr hd k off => by rw [← hμ _ k (Nat.le_of_lt hd)]; exact .ptr (by rw [hm]; exact hd) k off
  | _, _, .fresh off => by rw [← hf]; exact .fresh off
  | _, _, .elp hi he hc => .elp hi he (hc.mono h)
theorem RVs.mono {E E' : Env} (h : SExt E.w E.σ E'.w E'.σ) (hμ : ∀ d k, d ≤ E.me → E'.μ d k = E.μ d k) (hm : E'.me = E.me) (hf : E'.fr = E.fr) :
    ∀ {ps : List PV} {vs : List Value}, RVs E ps vs → RVs E' ps vs
  | _, _, .nil => .nil
  | _, _, .cons hp hs => .cons (RV.mono h hμ hm hf hp) (RVs.mono h hμ hm hf hs)
end

-- what a value of a form is
theorem RV.sc_inv {E : Env} {u v : Value} (h : RV E (.sc u) v) : v = u := by
  cases h with
  | pure h => cases h; rfl
theorem RV.agg_inv {E : Env} {cs : List PV} {v : Value} (h : RV E (.agg cs) v) : ∃ vs, v = .agg ⟨vs⟩ ∧ RVs E cs vs := by
  cases h with
  | pure h => cases h with | agg hs => exact ⟨_, rfl, .of_RPs hs⟩
  | agg hs => exact ⟨_, rfl, hs⟩
theorem RV.tup_inv {E : Env} {cs : List PV} {v : Value} (h : RV E (.tup cs) v) : ∃ vs, v = .tuple ⟨vs⟩ ∧ RVs E cs vs := by
  cases h with
  | pure h => cases h with | tup hs => exact ⟨_, rfl, .of_RPs hs⟩
  | tup hs => exact ⟨_, rfl, hs⟩
theorem RV.clo_inv {E : Env} {f : Nat} {a b : List PV} {v : Value} (h : RV E (.clo f a b) v) : ∃ va vb, v = .func (.func f) ⟨va⟩ ⟨vb⟩ ∧ RVs E a va ∧ RVs E b vb := by
  cases h with
  | pure h => cases h with | clo ha hb => exact ⟨_, _, rfl, .of_RPs ha, .of_RPs hb⟩
  | clo ha hb => exact ⟨_, _, rfl, ha, hb⟩
theorem RV.sl_inv {E : Env} {f : Fl} {z : Nat} {es : List (List PV)} {v : Value} (h : RV E (.sl f z es) v) : RP E.w E.σ (.sl f z es) v := by
  cases h with
  | pure h => exact h
theorem RV.own_inv {E : Env} {k off : Nat} {v : Value} (h : RV E (.own k off) v) : v = .pointer (some ⟨E.μ E.me k, off, none⟩) := by
  cases h with
  | pure h => cases h
  | own => rfl
theorem RV.ptr_inv {E : Env} {d k off : Nat} {v : Value} (h : RV E (.ptr d k off) v) : v = .pointer (some ⟨E.μ d k, off, none⟩) ∧ d < E.me := by
  cases h with
  | pure h => cases h
  | ptr hd => exact ⟨rfl, hd⟩
theorem RV.elp_inv {E : Env} {z : Nat} {es : List (List PV)} {i off : Nat} {v : Value} (h : RV E (.elp z es i off) v) :
    ∃ b o, v = .pointer (some ⟨b, o + i * z + off, none⟩) ∧ i < es.length ∧ (∀ e ∈ es, okEl z e) ∧ RC E.w E.σ b o es.flatten := by
  cases h with
  | pure h => cases h
  | elp hi he hc => exact ⟨_, _, rfl, hi, he, hc⟩
theorem RP.sl_inv {w : World} {σ : Seal} {f : Fl} {z : Nat} {es : List (List PV)} {v : Value} (h : RP w σ (.sl f z es) v) :
    (v = .slice none 0 0 ∧ es = []) ∨ (∃ b o cap, v = .slice (some ⟨b, o, none⟩) es.length cap ∧ f ≠ .nil ∧ es.length ≤ cap ∧ (∀ e ∈ es, okEl z e) ∧ RC w σ b o es.flatten) ∨
      ∃ a cap, v = .slice (some a) 0 cap ∧ es = [] ∧ f ≠ .nil := by
  cases h with
  | nil => exact .inl ⟨rfl, rfl⟩
  | sl hf hl he hc => exact .inr (.inl ⟨_, _, _, rfl, hf, hl, he, hc⟩)
  | mt z a cap hf => exact .inr (.inr ⟨a, cap, rfl, rfl, hf⟩)

/-- The flag, but nil, says nothing of where a slice lies. -/
theorem RP.reflag {w : World} {σ : Seal} {f g : Fl} {z : Nat} {es : List (List PV)} {v : Value} (hg : g ≠ .nil) (h : RP w σ (.sl f z es) v) : RP w σ (.sl g z es) v := by
  cases h with
  | nil => exact .nil g z
  | sl hf hl he hc => exact .sl hg hl he hc
  | mt z a cap hf => exact .mt z a cap hg

theorem RVs.length {E : Env} : ∀ {ps : List PV} {vs : List Value}, RVs E ps vs → vs.length = ps.length
  | _, _, .nil => rfl
  | _, _, .cons _ hs => by simp [hs.length]
theorem RPs.length {w : World} {σ : Seal} : ∀ {ps : List PV} {vs : List Value}, RPs w σ ps vs → vs.length = ps.length
  | _, _, .nil => rfl
  | _, _, .cons _ hs => by simp [hs.length]
theorem RVs.get {E : Env} : ∀ {ps : List PV} {vs : List Value} {i : Nat} {p : PV}, RVs E ps vs → ps[i]? = some p → ∃ v, vs[i]? = some v ∧ RV E p v
  | _, _, 0, _, .cons hp _, h => by simp at h; subst h; exact ⟨_, rfl, hp⟩
  | _, _, i + 1, _, .cons _ hs, h => by simpa using hs.get (by simpa using h)
  | _, _, _, _, .nil, h => by simp at h
theorem RVs.set {E : Env} : ∀ {ps : List PV} {vs : List Value} (i : Nat) {p : PV} {v : Value}, RVs E ps vs → RV E p v → RVs E (ps.set i p) (vs.set i v)
  | _, _, 0, _, _, .cons _ hs, h => .cons h hs
  | _, _, i + 1, _, _, .cons hp hs, h => .cons hp (hs.set i h)
  | _, _, _, _, _, .nil, _ => .nil
theorem RVs.append {E : Env} : ∀ {ps qs : List PV} {vs us : List Value}, RVs E ps vs → RVs E qs us → RVs E (ps ++ qs) (vs ++ us)
  | _, _, _, _, .nil, h => h
  | _, _, _, _, .cons hp hs, h => .cons hp (hs.append h)
theorem RVs.drop {E : Env} : ∀ (n : Nat) {ps : List PV} {vs : List Value}, RVs E ps vs → RVs E (ps.drop n) (vs.drop n)
  | 0, _, _, h => h
  | _ + 1, _, _, .nil => .nil
  | n + 1, _, _, .cons _ hs => hs.drop n
theorem RVs.take {E : Env} : ∀ (n : Nat) {ps : List PV} {vs : List Value}, RVs E ps vs → RVs E (ps.take n) (vs.take n)
  | 0, _, _, _ => .nil
  | _ + 1, _, _, .nil => .nil
  | n + 1, _, _, .cons hp hs => .cons hp (hs.take n)

mutual
theorem RP.canon {w : World} {σ : Seal} : ∀ {p : PV} {v : Value}, RP w σ p v → RP w σ (canon p) v
  | _, _, .undef v => .undef v
  | _, _, .sc v => .sc v
  | _, _, .agg hs => .agg (RPs.canons hs)
  | _, _, .tup hs => .tup (RPs.canons hs)
  | _, _, .nil f z => .nil .no z
  | _, _, .sl _ hl he hc => .sl (by simp) hl he hc
  | _, _, .mt z a cap _ => .mt z a cap (by simp)
  | _, _, .clo ha hb => .clo (RPs.canons ha) (RPs.canons hb)
theorem RPs.canons {w : World} {σ : Seal} : ∀ {ps : List PV} {vs : List Value}, RPs w σ ps vs → RPs w σ (canons ps) vs
  | _, _, .nil => .nil
  | _, _, .cons hp hs => .cons (RP.canon hp) (RPs.canons hs)
end
mutual
theorem RV.canon {E : Env} : ∀ {p : PV} {v : Value}, RV E p v → RV E (canon p) v
  | _, _, .pure hp => .pure hp.canon
  | _, _, .agg hs => .agg (RVs.canons hs)
  | _, _, .tup hs => .tup (RVs.canons hs)
  | _, _, .clo ha hb => .clo (RVs.canons ha) (RVs.canons hb)
  | _, _, .own k off => .own k off
  | _, _, .ptr hd k off => .ptr hd k off
  | _, _, .fresh off => .fresh off
  | _, _, .elp hi he hc => .elp hi he hc
theorem RVs.canons {E : Env} : ∀ {ps : List PV} {vs : List Value}, RVs E ps vs → RVs E (canons ps) vs
  | _, _, .nil => .nil
  | _, _, .cons hp hs => .cons (RV.canon hp) (RVs.canons hs)
end

theorem RV.dem {E : Env} {p : PV} {v : Value} (h : RV E p v) : RV E (dem p) v := by
  cases p with
  | sl f z es =>
    cases f with
    | nil => exact h
    | _ => exact .pure (h.sl_inv.reflag (by simp))
  | _ => exact h
theorem RVs.dems {E : Env} : ∀ {ps : List PV} {vs : List Value}, RVs E ps vs → RVs E (dems ps) vs
  | _, _, .nil => .nil
  | _, _, .cons hp hs => .cons hp.dem hs.dems
theorem RV.strip {E : Env} {p : PV} {v : Value} (h : RV E p v) : RV E (strip p) v := by
  cases p with
  | sl f z es =>
    cases f with
    | al s => exact .pure (h.sl_inv.reflag (by simp))
    | _ => exact h
  | _ => exact h
theorem RV.moved {E : Env} {p : PV} {v : Value} (h : RV E p v) : RV E (moved p) v := by
  cases p with
  | sl f z es =>
    cases f with
    | nil => exact h
    | own => exact h
    | _ => exact .pure (h.sl_inv.reflag (by simp))
  | _ => exact h
theorem RV.aliased {E : Env} {s : Src} {p : PV} {v : Value} (h : RV E p v) : RV E (aliased s p) v := by
  cases p with
  | sl f z es =>
    cases f with
    | own => exact .pure (h.sl_inv.reflag (by simp))
    | _ => exact h
  | _ => exact h

mutual
theorem RV.toPure {E : Env} : ∀ {p : PV} {v : Value}, RV E p v → pf p = true → RP E.w E.σ p v
  | _, _, .pure hp, _ => hp
  | _, _, .agg hs, hp => .agg (RVs.toPure hs (by simpa [pf] using hp))
  | _, _, .tup hs, hp => .tup (RVs.toPure hs (by simpa [pf] using hp))
  | _, _, .clo ha hb, hp => by
    simp only [pf, Bool.and_eq_true] at hp
    exact .clo (RVs.toPure ha hp.1) (RVs.toPure hb hp.2)
  | _, _, .own k off, hp => by simp [pf] at hp
  | _, _, .ptr _ k off, hp => by simp [pf] at hp
  | _, _, .fresh off, hp => by simp [pf] at hp
  | _, _, .elp .., hp => by simp [pf] at hp
theorem RVs.toPure {E : Env} : ∀ {ps : List PV} {vs : List Value}, RVs E ps vs → pfs ps = true → RPs E.w E.σ ps vs
  | _, _, .nil, _ => .nil
  | _, _, .cons h hs, hp => by
    simp only [pfs, Bool.and_eq_true] at hp
    exact .cons (RV.toPure h hp.1) (RVs.toPure hs hp.2)
end

mutual
/-- What lies in an outer frame's box, seen from within. -/
theorem RV.inner {E : Env} {m : Nat} (hm : m ≤ E.me) : ∀ {p : PV} {v : Value}, RV { E with me := m } p v → ownSub [] p = true → RV E p v
  | _, _, .pure hp, _ => .pure hp
  | _, _, .agg hs, ho => .agg (RVs.inner hm hs (by simpa [ownSub] using ho))
  | _, _, .tup hs, ho => .tup (RVs.inner hm hs (by simpa [ownSub] using ho))
  | _, _, .clo ha hb, ho => by
    simp only [ownSub, Bool.and_eq_true] at ho
    exact .clo (RVs.inner hm ha ho.1) (RVs.inner hm hb ho.2)
  | _, _, .own k off, ho => by simp [ownSub, hasN] at ho
  | _, _, .ptr hd k off, _ => .ptr (Nat.lt_of_lt_of_le hd hm) k off
  | _, _, .fresh off, _ => .fresh off
  | _, _, .elp hi he hc, _ => .elp hi he hc
theorem RVs.inner {E : Env} {m : Nat} (hm : m ≤ E.me) : ∀ {ps : List PV} {vs : List Value}, RVs { E with me := m } ps vs → ownSubs [] ps = true → RVs E ps vs
  | _, _, .nil, _ => .nil
  | _, _, .cons hp hs, ho => by
    simp only [ownSubs, Bool.and_eq_true] at ho
    exact .cons (RV.inner hm hp ho.1) (RVs.inner hm hs ho.2)
end

/-- Who may write to a block, or grow in it. -/
inductive Tag where
  | frn
  | box (d k : Nat)
  | opq (d k : Nat)
  | slot (t : Nat)
  | cell (d k off : Nat)
  | ret
  deriving DecidableEq

/-- A slice that may grow in place: its block is its holder's, sealed up to its end. -/
def Right (w : World) (σ : Seal) (τ : Nat → Tag) (g : Tag) (z : Nat) (es : List (List PV)) (v : Value) : Prop :=
  (v = .slice none 0 0 ∧ es = []) ∨
  ∃ b cap c ty, v = .slice (some ⟨b, 0, none⟩) es.length cap ∧ τ b = g ∧ σ b = es.length * z ∧ w.heap[b]? = some (.cells c ty (0, 0)) ∧ c.size = cap * z

/-- What a thing that is proved by hand is in memory: its block, and all blocks that are its own. -/
structure OpqSem (Ω : Type) where
  holds : Ω → World → Seal → Nat → (Nat → Prop) → Prop
  self : ∀ {x w σ b foot}, holds x w σ b foot → foot b
  there : ∀ {x w σ b foot k}, holds x w σ b foot → foot k → k < w.heap.size
  keep : ∀ {x w σ w' σ' b foot}, holds x w σ b foot → SExt w σ w' σ' → (∀ k, foot k → w'.heap[k]? = w.heap[k]?) → holds x w' σ' b foot

def CelRel {Ω : Type} (O : OpqSem Ω) (E : Env) (τ : Nat → Tag) (d k : Nat) : Cel Ω → Prop
  | .box cs => τ (E.μ d k) = .box d k ∧ E.σ (E.μ d k) = 0 ∧ ownSubs [] cs = true ∧ ∃ vs ty, E.w.heap[E.μ d k]? = some (.cells ⟨vs⟩ ty (0, 0)) ∧
      RVs { E with me := d } cs vs ∧ ∀ off z es, cs[off]? = some (.sl .own z es) → ∃ v, vs[off]? = some v ∧ Right E.w E.σ τ (.cell d k off) z es v
  | .opq x => ∃ foot, O.holds x E.w E.σ (E.μ d k) foot ∧ ∀ b, foot b → τ b = .opq d k ∧ E.σ b = 0

/-- What stays while a call runs. -/
structure FExt (w : World) (σ : Seal) (τ : Nat → Tag) (w' : World) (σ' : Seal) (τ' : Nat → Tag) : Prop where
  size : w.heap.size ≤ w'.heap.size
  sext : SExt w σ w' σ'
  keep : ∀ b, b < w.heap.size → τ b = .frn → w'.heap[b]? = w.heap[b]? ∧ τ' b = .frn ∧ σ' b = σ b
  os : w'.os = w.os
  tape : w'.tape = w.tape
  output : w'.output = w.output
  drawn : w.drawn ≤ w'.drawn

theorem FExt.refl (w : World) (σ : Seal) (τ : Nat → Tag) : FExt w σ τ w σ τ := ⟨Nat.le_refl _, .refl _ _, fun _ _ h => ⟨rfl, h, rfl⟩, rfl, rfl, rfl, Nat.le_refl _⟩
theorem FExt.trans {w w' w'' : World} {σ σ' σ'' : Seal} {τ τ' τ'' : Nat → Tag} (h : FExt w σ τ w' σ' τ') (k : FExt w' σ' τ' w'' σ'' τ'') : FExt w σ τ w'' σ'' τ'' :=
  ⟨Nat.le_trans h.size k.size, h.sext.trans k.sext, fun b hb hτ => by
    obtain ⟨h1, h2, h3⟩ := h.keep b hb hτ
    obtain ⟨k1, k2, k3⟩ := k.keep b (Nat.lt_of_lt_of_le hb h.size) h2
    exact ⟨k1.trans h1, k2, k3.trans h3⟩, k.os.trans h.os, k.tape.trans h.tape, k.output.trans h.output, Nat.le_trans h.drawn k.drawn⟩

/-- A running frame. -/
structure Inv {Ω : Type} (O : OpqSem Ω) (N : Nat) (st : FS Ω) (a : Act) (E : Env) (τ : Nat → Tag) : Prop where
  me : E.me = st.S.length
  defers : a.defers = []
  size : N ≤ a.tmps.size
  slots : ∀ t, RV E (getS st.sl t) (a.tmps.getD t Go.undef)
  frames : ∀ d F, st.S[d]? = some F → ∀ k c, look F k = some c → CelRel O E τ d k c
  mine : ∀ k c, look st.L k = some c → CelRel O E τ E.me k c
  wfs : ∀ t, ownSub (keys st.L) (getS st.sl t) = true
  rights : ∀ t z es, getS st.sl t = .sl .own z es → Right E.w E.σ τ (.slot t) z es (a.tmps.getD t Go.undef)
  alSlot : st.dirty = false → ∀ t x z es, getS st.sl t = .sl (.al (.slot x)) z es → isOwn (getS st.sl x) = true → a.tmps.getD x Go.undef = a.tmps.getD t Go.undef
  alCell : st.dirty = false → ∀ t k off z es cs z' es', getS st.sl t = .sl (.al (.cell k off)) z es → look st.L k = some (.box cs) → cs[off]? = some (.sl .own z' es') →
    E.w.cell? ⟨E.μ E.me k, off, none⟩ = some (a.tmps.getD t Go.undef)
  alOut : st.dirty = false → ∀ t d k off z es F cs z' es', getS st.sl t = .sl (.al (.gcell d k off)) z es → st.S[d]? = some F → look F k = some (.box cs) → cs[off]? = some (.sl .own z' es') →
    E.w.cell? ⟨E.μ d k, off, none⟩ = some (a.tmps.getD t Go.undef)
  fresh : ∀ b, E.w.heap.size ≤ b → E.σ b = 0 ∧ τ b = .frn
  alP : ∀ t x z es, getS st.sl t = .sl (.al (.slot x)) z es → ∃ v, look st.sl x = some v
end Go.Fw
end
section
/- What one operation does, I: slots. -/
namespace Go.Fw
variable {Ω : Type} {O : OpqSem Ω} {N : Nat}

theorem look_cons1' {α : Type} (j k : Nat) (u : α) (r : List (Nat × α)) : look ((j, u) :: r) k = if k = j then some u else look r k := by
  show (if Nat.beq k j = true then _ else _) = _
  by_cases h : k = j
  · rw [if_pos h, if_pos (by rw [h]; exact Nat.beq_refl j)]
  · rw [if_neg h, if_neg (fun e => h (Nat.eq_of_beq_eq_true e))]

theorem look_ins {α : Type} (s : List (Nat × α)) (k : Nat) (v : α) (t : Nat) : look (ins s k v) t = if t = k then some v else look s t := by
  induction s with
  | nil =>
    show look [(k, v)] t = _
    rw [look_cons1']
  | cons x r ih =>
    obtain ⟨j, u⟩ := x
    simp only [ins]
    by_cases h1 : Nat.beq k j = true
    · have hj := Nat.eq_of_beq_eq_true h1
      subst hj
      rw [if_pos h1, look_cons1', look_cons1']
      by_cases h : t = k
      · rw [if_pos h, if_pos h]
      · rw [if_neg h, if_neg h, if_neg h]
    · rw [if_neg h1]
      have hkj : k ≠ j := fun e => h1 (by rw [e]; exact Nat.beq_refl j)
      by_cases h2 : Nat.blt k j = true
      · rw [if_pos h2, look_cons1']
      · rw [if_neg h2, look_cons1', ih, look_cons1']
        by_cases h : t = k
        · rw [if_pos h, if_pos h, if_neg (by rw [h]; exact hkj)]
        · rw [if_neg h, if_neg h]

theorem look_ins_some {α : Type} {s : List (Nat × α)} (k : Nat) (v : α) {t : Nat} (h : ∃ u, look s t = some u) : ∃ u, look (ins s k v) t = some u := by
  rw [look_ins]
  by_cases e : t = k
  · rw [if_pos e]; exact ⟨v, rfl⟩
  · rw [if_neg e]; exact h

theorem getS_ins (s : List (Nat × PV)) (k : Nat) (v : PV) (t : Nat) : getS (ins s k v) t = if t = k then v else getS s t := by
  unfold getS
  rw [look_ins]
  by_cases h : t = k
  · rw [if_pos h, if_pos h]
  · rw [if_neg h, if_neg h]

theorem hasN_ins {α : Type} (s : List (Nat × α)) (k : Nat) (v : α) (t : Nat) : hasN (keys (ins s k v)) t = true ↔ t = k ∨ hasN (keys s) t = true := by
  rw [hasN_keys, hasN_keys, look_ins]
  by_cases h : t = k
  · rw [if_pos h]; exact ⟨fun _ => .inl h, fun _ => ⟨v, rfl⟩⟩
  · rw [if_neg h]; exact ⟨.inr, fun h' => h'.resolve_left h⟩

mutual
theorem ownSub_mono {D D' : List Nat} (h : ∀ k, hasN D k = true → hasN D' k = true) : ∀ p : PV, ownSub D p = true → ownSub D' p = true
  | .own k _, hp => by simp only [ownSub] at hp ⊢; exact h k hp
  | .agg cs, hp => by simp only [ownSub] at hp ⊢; exact ownSubs_mono h cs hp
  | .tup cs, hp => by simp only [ownSub] at hp ⊢; exact ownSubs_mono h cs hp
  | .clo _ a b, hp => by
    simp only [ownSub, Bool.and_eq_true] at hp ⊢
    exact ⟨ownSubs_mono h a hp.1, ownSubs_mono h b hp.2⟩
  | .fresh _, hp => by simp [ownSub] at hp
  | .undef, _ | .sc _, _ | .sl .., _ | .ptr .., _ | .elp .., _ => rfl
theorem ownSubs_mono {D D' : List Nat} (h : ∀ k, hasN D k = true → hasN D' k = true) : ∀ ps : List PV, ownSubs D ps = true → ownSubs D' ps = true
  | [], _ => rfl
  | p :: ps, hp => by
    simp only [ownSubs, Bool.and_eq_true] at hp ⊢
    exact ⟨ownSub_mono h p hp.1, ownSubs_mono h ps hp.2⟩
end

theorem tmps_put (a : Act) (d : Nat) (v : Value) (hd : d < a.tmps.size) (t : Nat) :
    (a.put (some d) v).tmps.getD t Go.undef = if t = d then v else a.tmps.getD t Go.undef := by
  simp only [Act.put, Array.getD_eq_getD_getElem?]
  rw [Array.getElem?_setIfInBounds]
  by_cases h : d = t
  · subst h; rw [if_pos rfl, if_pos hd, if_pos rfl]; rfl
  · rw [if_neg h, if_neg (fun e => h e.symm)]

theorem size_put (a : Act) (dst : Option Nat) (v : Value) : (a.put dst v).tmps.size = a.tmps.size := by
  cases dst with
  | none => rfl
  | some d => simp [Act.put]

/-- A slot is written with what bears no right. -/
theorem Inv.put {st : FS Ω} {a : Act} {E : Env} {τ : Nat → Tag} (hI : Inv O N st a E τ) {dst : Option Nat} {p : PV} {v : Value}
    (hd : ∀ d, dst = some d → d < N) (hv : RV E p v) (hw : ownSub (keys st.L) p = true) (hno : isOwn p = false)
    (hs : st.dirty = false → ∀ x z es, p = .sl (.al (.slot x)) z es → isOwn (getS st.sl x) = true → a.tmps.getD x Go.undef = v)
    (hc : st.dirty = false → ∀ k off z es cs z' es', p = .sl (.al (.cell k off)) z es → look st.L k = some (.box cs) → cs[off]? = some (.sl .own z' es') →
      E.w.cell? ⟨E.μ E.me k, off, none⟩ = some v)
    (ho : st.dirty = false → ∀ d k off z es F cs z' es', p = .sl (.al (.gcell d k off)) z es → st.S[d]? = some F → look F k = some (.box cs) → cs[off]? = some (.sl .own z' es') →
      E.w.cell? ⟨E.μ d k, off, none⟩ = some v)
    (hq : ∀ x z es, p = .sl (.al (.slot x)) z es → ∃ u, look st.sl x = some u) :
    Inv O N (st.put dst p) (a.put dst v) E τ := by
  cases dst with
  | none => exact hI
  | some d =>
    have hdn : d < a.tmps.size := Nat.lt_of_lt_of_le (hd d rfl) hI.size
    have hg := getS_ins st.sl d p
    have ht := tmps_put a d v hdn
    constructor
    · exact hI.me
    · exact hI.defers
    · rw [size_put]; exact hI.size
    · intro t
      show RV E (getS (ins st.sl d p) t) _
      rw [hg, ht]
      by_cases h : t = d
      · rw [if_pos h, if_pos h]; exact hv
      · rw [if_neg h, if_neg h]; exact hI.slots t
    · exact hI.frames
    · exact hI.mine
    · intro t
      show ownSub (keys st.L) (getS (ins st.sl d p) t) = true
      rw [hg]
      by_cases h : t = d
      · rw [if_pos h]; exact hw
      · rw [if_neg h]; exact hI.wfs t
    · intro t z es hp
      have hp : getS (ins st.sl d p) t = .sl .own z es := hp
      rw [hg] at hp
      rw [ht]
      by_cases h : t = d
      · rw [if_pos h] at hp; rw [hp] at hno; cases hno
      · rw [if_neg h] at hp ⊢; exact hI.rights t z es hp
    · intro hdirty t x z es hp hx
      have hp : getS (ins st.sl d p) t = .sl (.al (.slot x)) z es := hp
      have hx : isOwn (getS (ins st.sl d p) x) = true := hx
      rw [hg] at hp hx
      rw [ht, ht]
      by_cases h2 : x = d
      · rw [if_pos h2] at hx; rw [hx] at hno; cases hno
      · rw [if_neg h2] at hx ⊢
        by_cases h : t = d
        · rw [if_pos h] at hp ⊢; exact hs hdirty x z es hp hx
        · rw [if_neg h] at hp ⊢; exact hI.alSlot hdirty t x z es hp hx
    · intro hdirty t k off z es cs z' es' hp hl hcs
      have hp : getS (ins st.sl d p) t = .sl (.al (.cell k off)) z es := hp
      rw [hg] at hp
      rw [ht]
      by_cases h : t = d
      · rw [if_pos h] at hp ⊢; exact hc hdirty k off z es cs z' es' hp hl hcs
      · rw [if_neg h] at hp ⊢; exact hI.alCell hdirty t k off z es cs z' es' hp hl hcs
    · intro hdirty t e k off z es F cs z' es' hp hF hl hcs
      have hp : getS (ins st.sl d p) t = .sl (.al (.gcell e k off)) z es := hp
      rw [hg] at hp
      rw [ht]
      by_cases h : t = d
      · rw [if_pos h] at hp ⊢; exact ho hdirty e k off z es F cs z' es' hp hF hl hcs
      · rw [if_neg h] at hp ⊢; exact hI.alOut hdirty t e k off z es F cs z' es' hp hF hl hcs
    · exact hI.fresh
    · intro t x z es hp
      have hp : getS (ins st.sl d p) t = .sl (.al (.slot x)) z es := hp
      rw [hg] at hp
      by_cases h : t = d
      · rw [if_pos h] at hp; exact look_ins_some d p (hq x z es hp)
      · rw [if_neg h] at hp; exact look_ins_some d p (hI.alP t x z es hp)

def noFlag : PV → Bool
  | .sl .own _ _ | .sl (.al _) _ _ => false
  | _ => true

theorem Inv.putPlain {st : FS Ω} {a : Act} {E : Env} {τ : Nat → Tag} (hI : Inv O N st a E τ) {dst : Option Nat} {p : PV} {v : Value}
    (hd : ∀ d, dst = some d → d < N) (hv : RV E p v) (hw : ownSub (keys st.L) p = true) (hf : noFlag p = true) : Inv O N (st.put dst p) (a.put dst v) E τ := by
  refine hI.put hd hv hw ?_ ?_ ?_ ?_ ?_
  · cases p with
    | sl f z es => cases f <;> first | rfl | cases hf
    | _ => rfl
  · rintro _ x z es rfl; cases hf
  · rintro _ k off z es cs z' es' rfl; cases hf
  · rintro _ d k off z es F cs z' es' rfl; cases hf
  · rintro x z es rfl; cases hf

theorem noAl_spec {d : Nat} : ∀ {s : List (Nat × PV)}, noAl d s = true → look s d = none
  | [], _ => rfl
  | (j, p) :: r, h => by
    simp only [noAl, Bool.and_eq_true, Bool.not_eq_true'] at h
    show (if Nat.beq d j = true then _ else _) = _
    rw [h.1]
    exact noAl_spec h.2

/-- A slot is written with a slice that may grow. -/
theorem Inv.putOwn {st : FS Ω} {a : Act} {E : Env} {τ : Nat → Tag} (hI : Inv O N st a E τ) {d : Nat} {z : Nat} {es : List (List PV)} {v : Value}
    (hd : d < N) (hv : RV E (.sl .own z es) v) (hr : Right E.w E.σ τ (.slot d) z es v) (hal : st.dirty = false → noAl d st.sl = true) :
    Inv O N { st with sl := ins st.sl d (.sl .own z es) } (a.put (some d) v) E τ := by
  have hdn : d < a.tmps.size := Nat.lt_of_lt_of_le hd hI.size
  have hg := getS_ins st.sl d (.sl .own z es)
  have ht := tmps_put a d v hdn
  constructor
  · exact hI.me
  · exact hI.defers
  · rw [size_put]; exact hI.size
  · intro t
    show RV E (getS (ins st.sl d _) t) _
    rw [hg, ht]
    by_cases h : t = d
    · rw [if_pos h, if_pos h]; exact hv
    · rw [if_neg h, if_neg h]; exact hI.slots t
  · exact hI.frames
  · exact hI.mine
  · intro t
    show ownSub (keys st.L) (getS (ins st.sl d _) t) = true
    rw [hg]
    by_cases h : t = d
    · rw [if_pos h]; rfl
    · rw [if_neg h]; exact hI.wfs t
  · intro t z' es' hp
    have hp : getS (ins st.sl d _) t = .sl .own z' es' := hp
    rw [hg] at hp
    rw [ht]
    by_cases h : t = d
    · rw [if_pos h] at hp ⊢; injection hp with _ h1 h2; subst h1 h2 h; exact hr
    · rw [if_neg h] at hp ⊢; exact hI.rights t z' es' hp
  · intro hdirty t x z' es' hp hx
    have hp : getS (ins st.sl d _) t = .sl (.al (.slot x)) z' es' := hp
    have hx : isOwn (getS (ins st.sl d _) x) = true := hx
    rw [hg] at hp hx
    rw [ht, ht]
    by_cases h : t = d
    · rw [if_pos h] at hp; cases hp
    · rw [if_neg h] at hp ⊢
      by_cases h2 : x = d
      · rw [h2] at hp; exact absurd (hI.alP t d z' es' hp) (by rw [noAl_spec (hal hdirty)]; rintro ⟨_, h⟩; cases h)
      · rw [if_neg h2] at hx ⊢; exact hI.alSlot hdirty t x z' es' hp hx
  · intro hdirty t k off z' es' cs z'' es'' hp hl hcs
    have hp : getS (ins st.sl d _) t = .sl (.al (.cell k off)) z' es' := hp
    rw [hg] at hp
    rw [ht]
    by_cases h : t = d
    · rw [if_pos h] at hp; cases hp
    · rw [if_neg h] at hp ⊢; exact hI.alCell hdirty t k off z' es' cs z'' es'' hp hl hcs
  · intro hdirty t e k off z' es' F cs z'' es'' hp hF hl hcs
    have hp : getS (ins st.sl d _) t = .sl (.al (.gcell e k off)) z' es' := hp
    rw [hg] at hp
    rw [ht]
    by_cases h : t = d
    · rw [if_pos h] at hp; cases hp
    · rw [if_neg h] at hp ⊢; exact hI.alOut hdirty t e k off z' es' F cs z'' es'' hp hF hl hcs
  · exact hI.fresh
  · intro t x z' es' hp
    have hp : getS (ins st.sl d _) t = .sl (.al (.slot x)) z' es' := hp
    rw [hg] at hp
    by_cases h : t = d
    · rw [if_pos h] at hp; cases hp
    · rw [if_neg h] at hp; exact look_ins_some d _ (hI.alP t x z' es' hp)

/-- Memory grows, and what is sealed stays; nothing of the frame's own is written. -/
structure Calm (E E' : Env) (τ τ' : Nat → Tag) : Prop where
  ext : FExt E.w E.σ τ E'.w E'.σ τ'
  me : E'.me = E.me
  fr : E'.fr = E.fr
  μ : ∀ d k, E'.μ d k = E.μ d k
  /-- What is somebody's is as it was. -/
  held : ∀ b, b < E.w.heap.size → τ b ≠ .frn → E'.w.heap[b]? = E.w.heap[b]? ∧ τ' b = τ b ∧ E'.σ b = E.σ b
  fresh : ∀ b, E'.w.heap.size ≤ b → E'.σ b = 0 ∧ τ' b = .frn

theorem Calm.refl {E : Env} {τ : Nat → Tag} (h : ∀ b, E.w.heap.size ≤ b → E.σ b = 0 ∧ τ b = .frn) : Calm E E τ τ :=
  ⟨.refl _ _ _, rfl, rfl, fun _ _ => rfl, fun _ _ _ => ⟨rfl, rfl, rfl⟩, h⟩

theorem lt_of_some {w : World} {b : Nat} {o : Obj} (h : w.heap[b]? = some o) : b < w.heap.size := by
  rw [Array.getElem?_eq_some_iff] at h; exact h.1

theorem Right.calm {E E' : Env} {τ τ' : Nat → Tag} (hC : Calm E E' τ τ') {g : Tag} (hg : g ≠ .frn) {z : Nat} {es : List (List PV)} {v : Value}
    (h : Right E.w E.σ τ g z es v) : Right E'.w E'.σ τ' g z es v := by
  rcases h with h | ⟨b, cap, c, ty, hv, hτ, hσ, hh, hc⟩
  · exact .inl h
  · have hb := lt_of_some hh
    obtain ⟨h1, h2, h3⟩ := hC.held b hb (by rw [hτ]; exact hg)
    exact .inr ⟨b, cap, c, ty, hv, h2.trans hτ, h3.trans hσ, h1.trans hh, hc⟩

theorem CelRel.calm {E E' : Env} {τ τ' : Nat → Tag} (hC : Calm E E' τ τ') {d k : Nat} {c : Cel Ω} (h : CelRel O E τ d k c) : CelRel O E' τ' d k c := by
  cases c with
  | box cs =>
    obtain ⟨h1, h2, h3, vs, ty, h4, h5, h6⟩ := h
    have hb := lt_of_some h4
    obtain ⟨k1, k2, k3⟩ := hC.held _ hb (by rw [h1]; intro h; cases h)
    refine ⟨by rw [hC.μ]; exact k2.trans h1, by rw [hC.μ]; exact k3.trans h2, h3, vs, ty, by rw [hC.μ]; exact k1.trans h4, ?_, ?_⟩
    · exact RVs.mono (E := { E with me := d }) (E' := { E' with me := d }) hC.ext.sext (fun d k _ => hC.μ d k) rfl hC.fr h5
    · intro off z es ho
      obtain ⟨v, hv, hr⟩ := h6 off z es ho
      exact ⟨v, hv, hr.calm hC (by intro h; cases h)⟩
  | opq x =>
    obtain ⟨foot, hx, hf⟩ := h
    have hk : ∀ b, foot b → E'.w.heap[b]? = E.w.heap[b]? ∧ τ' b = τ b ∧ E'.σ b = E.σ b := fun b hb =>
      hC.held b (O.there hx hb) (by rw [(hf b hb).1]; intro h; cases h)
    refine ⟨foot, ?_, fun b hb => ?_⟩
    · rw [hC.μ]; exact O.keep hx hC.ext.sext (fun b hb => (hk b hb).1)
    · obtain ⟨_, k2, k3⟩ := hk b hb
      exact ⟨k2.trans (hf b hb).1, k3.trans (hf b hb).2⟩

/-- A frame, behind what writes nothing of its own. -/
theorem Inv.calm {st : FS Ω} {a : Act} {E E' : Env} {τ τ' : Nat → Tag} (hI : Inv O N st a E τ) (hC : Calm E E' τ τ') : Inv O N st a E' τ' := by
  have hme := hC.me
  constructor
  · rw [hme]; exact hI.me
  · exact hI.defers
  · exact hI.size
  · intro t; exact RV.mono hC.ext.sext (fun d k _ => hC.μ d k) hme hC.fr (hI.slots t)
  · intro d F hF k c hc
    exact (hI.frames d F hF k c hc).calm hC
  · intro k c hc
    have h := (hI.mine k c hc).calm hC
    rw [hme]; exact h
  · exact hI.wfs
  · intro t z es hp; exact (hI.rights t z es hp).calm hC (by intro h; cases h)
  · exact hI.alSlot
  · intro hdirty t k off z es cs z' es' hp hl hcs
    have h := hI.alCell hdirty t k off z es cs z' es' hp hl hcs
    have hb := block_lt_of_cell h
    rw [hme, hC.μ]
    obtain ⟨h1, _, _, vs, ty, h4, _⟩ := hI.mine k _ hl
    obtain ⟨k1, _, _⟩ := hC.held _ hb (by rw [h1]; intro h; cases h)
    rw [World.cell?_of_block (w := E.w) k1]; exact h
  · intro hdirty t d k off z es F cs z' es' hp hF hl hcs
    have h := hI.alOut hdirty t d k off z es F cs z' es' hp hF hl hcs
    have hb := block_lt_of_cell h
    rw [hC.μ]
    obtain ⟨h1, _, _, vs, ty, h4, _⟩ := hI.frames d F hF k _ hl
    obtain ⟨k1, _, _⟩ := hC.held _ hb (by rw [h1]; intro h; cases h)
    rw [World.cell?_of_block (w := E.w) k1]; exact h
  · exact hC.fresh
  · exact hI.alP
end Go.Fw
end
section
/- What one operation does, II: operations that write no memory. -/
namespace Go.Fw
variable {Ω : Type} {O : OpqSem Ω} {N : Nat} {P : Program}

-- the annotated code held against the code
def sameV : Value → Value → Bool
  | .bool a, .bool b => a == b
  | .int k a, .int k' b => sameK k k' && decide (a = b)
  | .string a, .string b => decide (a = b)
  | .pointer none, .pointer none | .nilFunc, .nilFunc | .nilIface, .nilIface | .map none, .map none => true
  | _, _ => false
def chkV : Value → PV → Bool
  | .slice none 0 0, .sl .nil _ [] => true
  | v, .sc u => sameV v u
  | _, _ => false
def chkVs : List Value → List PV → Bool
  | [], [] => true
  | v :: vs, p :: ps => chkV v p && chkVs vs ps
  | _, _ => false
def chkO : Operand → Opd → Bool
  | .tmp t, .t n => Nat.beq t n
  | .func f, .f g => Nat.beq f g
  | .const v, .c p => chkV v p
  | _, _ => false
def chkOs : List Operand → List Opd → Bool
  | [], [] => true
  | x :: xs, y :: ys => chkO x y && chkOs xs ys
  | _, _ => false
/-- One cell ('none'), or a struct's (an array's) cells. -/
def shapeOf (P : Program) (t : TypeId) : Option (Option Nat) :=
  match P.underlying t, P.info? t with
  | some (.struct _), some i | some (.array ..), some i => some (some i.size)
  | some _, some i => if Nat.beq i.size 1 then some none else none
  | _, _ => none
def isN (x : Option (Option Nat)) (n : Option Nat) : Bool :=
  match x, n with
  | some (some a), some b => Nat.beq a b
  | some none, none => true
  | _, _ => false

theorem sameK_eq {k k' : IntKind} (h : sameK k k' = true) : k = k' := by cases k <;> cases k' <;> first | rfl | cases h
theorem sameK_self (k : IntKind) : sameK k k = true := by cases k <;> rfl
theorem sameV_eq {v u : Value} (h : sameV v u = true) : v = u := by
  unfold sameV at h
  split at h
  · rw [beq_iff_eq.1 h]
  · rw [Bool.and_eq_true, decide_eq_true_eq] at h; rw [sameK_eq h.1, h.2]
  · rw [of_decide_eq_true h]
  · rfl
  · rfl
  · rfl
  · rfl
  · cases h
theorem chkV_RP {w : World} {σ : Seal} {v : Value} {p : PV} (h : chkV v p = true) : RP w σ p v := by
  unfold chkV at h
  split at h
  · exact .nil _ _
  · rw [sameV_eq h]; exact .sc _
  · cases h
theorem chkVs_RPs {w : World} {σ : Seal} : ∀ {vs : List Value} {ps : List PV}, chkVs vs ps = true → RPs w σ ps vs
  | [], [], _ => .nil
  | v :: vs, p :: ps, h => by
    simp only [chkVs, Bool.and_eq_true] at h
    exact .cons (chkV_RP h.1) (chkVs_RPs h.2)
  | [], _ :: _, h => by cases h
  | _ :: _, [], h => by cases h

theorem chkV_flag {v : Value} {p : PV} (h : chkV v p = true) : noFlag p = true ∧ ownSub [] p = true := by
  unfold chkV at h
  split at h
  · exact ⟨rfl, rfl⟩
  · exact ⟨rfl, rfl⟩
  · cases h

theorem chkO_RV {st : FS Ω} {a : Act} {E : Env} {τ : Nat → Tag} (hI : Inv O N st a E τ) {x : Operand} {y : Opd} (h : chkO x y = true) : RV E (st.rd y) (a.eval x) := by
  unfold chkO at h
  split at h
  · rw [Nat.eq_of_beq_eq_true h]; exact hI.slots _
  · rw [Nat.eq_of_beq_eq_true h]; exact .clo .nil .nil
  · exact .pure (chkV_RP h)
  · cases h
theorem chkO_own {st : FS Ω} {a : Act} {E : Env} {τ : Nat → Tag} (hI : Inv O N st a E τ) {x : Operand} {y : Opd} (h : chkO x y = true) : ownSub (keys st.L) (st.rd y) = true := by
  unfold chkO at h
  split at h
  · exact hI.wfs _
  · rfl
  · exact ownSub_mono (fun k hk => by cases hk) _ (chkV_flag h).2
  · cases h
theorem chkOs_RVs {st : FS Ω} {a : Act} {E : Env} {τ : Nat → Tag} (hI : Inv O N st a E τ) : ∀ {xs : List Operand} {ys : List Opd}, chkOs xs ys = true → RVs E (ys.map st.rd) (xs.map a.eval)
  | [], [], _ => .nil
  | x :: xs, y :: ys, h => by
    simp only [chkOs, Bool.and_eq_true] at h
    exact .cons (chkO_RV hI h.1) (chkOs_RVs hI h.2)
  | [], _ :: _, h => by cases h
  | _ :: _, [], h => by cases h
theorem chkOs_own {st : FS Ω} {a : Act} {E : Env} {τ : Nat → Tag} (hI : Inv O N st a E τ) : ∀ {xs : List Operand} {ys : List Opd}, chkOs xs ys = true → ownSubs (keys st.L) (ys.map st.rd) = true
  | [], [], _ => rfl
  | x :: xs, y :: ys, h => by
    simp only [chkOs, Bool.and_eq_true] at h
    simp only [List.map_cons, ownSubs, Bool.and_eq_true]
    exact ⟨chkO_own hI h.1, chkOs_own hI h.2⟩
  | [], _ :: _, h => by cases h
  | _ :: _, [], h => by cases h

mutual
theorem ownSub_canon (D : List Nat) : ∀ p : PV, ownSub D (canon p) = ownSub D p
  | .agg cs => by simp only [canon, ownSub]; exact ownSubs_canons D cs
  | .tup cs => by simp only [canon, ownSub]; exact ownSubs_canons D cs
  | .clo _ a b => by simp only [canon, ownSub]; rw [ownSubs_canons D a, ownSubs_canons D b]
  | .undef | .sc _ | .own .. | .sl .. | .ptr .. | .fresh _ | .elp .. => rfl
theorem ownSubs_canons (D : List Nat) : ∀ ps : List PV, ownSubs D (canons ps) = ownSubs D ps
  | [] => rfl
  | p :: ps => by simp only [canons, ownSubs]; rw [ownSub_canon D p, ownSubs_canons D ps]
end
theorem ownSubs_get {D : List Nat} : ∀ {ps : List PV} {i : Nat} {p : PV}, ownSubs D ps = true → ps[i]? = some p → ownSub D p = true
  | p :: ps, 0, q, h, e => by
    simp only [ownSubs, Bool.and_eq_true] at h
    simp at e; rw [← e]; exact h.1
  | p :: ps, i + 1, q, h, e => by
    simp only [ownSubs, Bool.and_eq_true] at h
    exact ownSubs_get h.2 (by simpa using e)
  | [], _, _, _, e => by simp at e
theorem ownSubs_drop {D : List Nat} : ∀ (n : Nat) {ps : List PV}, ownSubs D ps = true → ownSubs D (ps.drop n) = true
  | 0, _, h => h
  | _ + 1, [], _ => rfl
  | n + 1, p :: ps, h => by
    simp only [ownSubs, Bool.and_eq_true] at h
    exact ownSubs_drop n h.2
theorem ownSubs_take {D : List Nat} : ∀ (n : Nat) {ps : List PV}, ownSubs D ps = true → ownSubs D (ps.take n) = true
  | 0, _, _ => rfl
  | _ + 1, [], _ => rfl
  | n + 1, p :: ps, h => by
    simp only [ownSubs, Bool.and_eq_true] at h
    simp only [List.take_succ_cons, ownSubs, Bool.and_eq_true]
    exact ⟨h.1, ownSubs_take n h.2⟩
theorem ownSubs_append {D : List Nat} : ∀ {ps qs : List PV}, ownSubs D ps = true → ownSubs D qs = true → ownSubs D (ps ++ qs) = true
  | [], _, _, h => h
  | p :: ps, qs, h, k => by
    simp only [ownSubs, Bool.and_eq_true] at h
    simp only [List.cons_append, ownSubs, Bool.and_eq_true]
    exact ⟨h.1, ownSubs_append h.2 k⟩
theorem ownSubs_set {D : List Nat} : ∀ (i : Nat) {ps : List PV} {p : PV}, ownSubs D ps = true → ownSub D p = true → ownSubs D (ps.set i p) = true
  | _, [], _, h, _ => h
  | 0, q :: ps, p, h, k => by
    simp only [ownSubs, Bool.and_eq_true] at h
    simp only [List.set_cons_zero, ownSubs, Bool.and_eq_true]
    exact ⟨k, h.2⟩
  | i + 1, q :: ps, p, h, k => by
    simp only [ownSubs, Bool.and_eq_true] at h
    simp only [List.set_cons_succ, ownSubs, Bool.and_eq_true]
    exact ⟨h.1, ownSubs_set i h.2 k⟩
theorem ownSubs_dems {D : List Nat} : ∀ {ps : List PV}, ownSubs D (dems ps) = ownSubs D ps
  | [] => rfl
  | p :: ps => by
    simp only [dems, ownSubs, ownSubs_dems]
    congr 1
    cases p with
    | sl f z es => cases f <;> rfl
    | _ => rfl

/-- What a pure operation yields. -/
structure PRes (st : FS Ω) (E : Env) (p : PV) (v : Value) : Prop where
  rel : RV E p v
  own : ownSub (keys st.L) p = true

-- types
section
variable (w : World)
theorem shape_some {t : TypeId} {n : Nat} (h : shapeOf P t = some (some n)) : ∃ d i, P.underlying t = some d ∧ P.info? t = some i ∧ i.size = n ∧ (isAgg t).run P w = .ok true w ∧ (sizeOf t).run P w = .ok n w := by
  unfold shapeOf at h
  split at h
  · rename_i fs i hd hi
    simp only [Option.some.injEq] at h
    exact ⟨_, i, hd, hi, h, by simp [isAgg, underlying, hd], by simp [sizeOf, typeInfo, hi, h]⟩
  · rename_i m e i hd hi
    simp only [Option.some.injEq] at h
    exact ⟨_, i, hd, hi, h, by simp [isAgg, underlying, hd], by simp [sizeOf, typeInfo, hi, h]⟩
  · split at h <;> simp at h
  · cases h
theorem shape_none {t : TypeId} (h : shapeOf P t = some none) : ∃ d i, P.underlying t = some d ∧ P.info? t = some i ∧ i.size = 1 ∧ (isAgg t).run P w = .ok false w ∧ (sizeOf t).run P w = .ok 1 w := by
  unfold shapeOf at h
  split at h
  · simp at h
  · simp at h
  · rename_i d i hn1 hn2 hd hi
    split at h
    · rename_i h1
      have h1 := Nat.eq_of_beq_eq_true h1
      refine ⟨d, i, hd, hi, h1, ?_, by simp [sizeOf, typeInfo, hi, h1]⟩
      cases d <;> simp_all [isAgg, underlying]
    · cases h
  · cases h
end

theorem isN_eq {x : Option (Option Nat)} {n : Option Nat} (h : isN x n = true) : x = some n := by
  unfold isN at h
  split at h
  · rw [Nat.eq_of_beq_eq_true h]
  · rfl
  · cases h

/-- A part of a struct. -/
theorem part_ok {E : Env} {t : TypeId} {n : Option Nat} (hN : isN (shapeOf P t) n = true) {cs : List PV} {vs : List Value} {off : Nat} {p : PV} (hv : RVs E cs vs) (hp : part n off cs = some p) :
    ∃ v, (Go.part t ⟨vs⟩ off).run P E.w = .ok v E.w ∧ RV E p v := by
  have hN := isN_eq hN
  cases n with
  | none =>
    obtain ⟨_, _, _, _, _, ha, _⟩ := shape_none E.w hN
    simp only [part, Option.map_eq_some_iff] at hp
    obtain ⟨q, hq, rfl⟩ := hp
    obtain ⟨v, hv1, hv2⟩ := hv.get hq
    refine ⟨v, ?_, hv2.dem⟩
    simp [Go.part, ha, hv1]
  | some n =>
    obtain ⟨_, _, _, _, _, ha, hs⟩ := shape_some E.w hN
    simp only [part] at hp
    split at hp
    · simp only [Option.some.injEq] at hp
      subst hp
      refine ⟨.agg ⟨(vs.drop off).take n⟩, ?_, .agg ((hv.drop off).take n).canons⟩
      simp only [Go.part, Sem.run_bind, ha, Result.andThen_ok, if_true, hs, Sem.run_pure]
      congr 2
      apply Array.toList_inj.1
      rw [Array.toList_extract, List.extract_eq_take_drop]
      simp
    · cases hp

theorem part_own {D : List Nat} {n : Option Nat} {off : Nat} {cs : List PV} {p : PV} (ho : ownSubs D cs = true) (hp : part n off cs = some p) : ownSub D p = true := by
  cases n with
  | none =>
    simp only [part, Option.map_eq_some_iff] at hp
    obtain ⟨q, hq, rfl⟩ := hp
    have := ownSubs_get ho hq
    cases q with
    | sl f z es => cases f <;> rfl
    | _ => exact this
  | some n =>
    simp only [part] at hp
    split at hp
    · simp only [Option.some.injEq] at hp
      subst hp
      simp only [ownSub, ownSubs_canons]
      exact ownSubs_take n (ownSubs_drop off ho)
    · cases hp

theorem part_flag {n : Option Nat} {off : Nat} {cs : List PV} {p : PV} (hp : part n off cs = some p) : noFlag p = true := by
  cases n with
  | none =>
    simp only [part, Option.map_eq_some_iff] at hp
    obtain ⟨q, _, rfl⟩ := hp
    cases q with
    | sl f z es => cases f <;> rfl
    | _ => rfl
  | some n =>
    simp only [part] at hp
    split at hp
    · simp only [Option.some.injEq] at hp; subst hp; rfl
    · cases hp
end Go.Fw
end
section
/- What one operation does, III: the pure operations' values. -/
namespace Go.Fw
variable {Ω : Type} {O : OpqSem Ω} {N : Nat} {P : Program}

theorem run_underlying' {t : TypeId} {d : TypeDesc} (h : P.underlying t = some d) (w : World) : (underlying t).run P w = .ok d w := by simp [underlying, h]
theorem run_sizeOf' {t : TypeId} {i : TypeInfo} (h : P.info? t = some i) (w : World) : (sizeOf t).run P w = .ok i.size w := by simp [sizeOf, typeInfo, h]

theorem RC.append_inv {w : World} {σ : Seal} {b : Nat} : ∀ {o : Nat} {ps qs : List PV}, RC w σ b o (ps ++ qs) → RC w σ b o ps ∧ RC w σ b (o + ps.length) qs
  | o, [], qs, h => ⟨.nil b o, by simpa using h⟩
  | o, p :: ps, qs, .cons h1 h2 h3 h4 => by
    obtain ⟨ha, hb⟩ := RC.append_inv h4
    refine ⟨.cons h1 h2 h3 ha, ?_⟩
    rw [show o + (p :: ps).length = o + 1 + ps.length from by simp; omega]
    exact hb
theorem RC.append {w : World} {σ : Seal} {b : Nat} : ∀ {o : Nat} {ps qs : List PV}, RC w σ b o ps → RC w σ b (o + ps.length) qs → RC w σ b o (ps ++ qs)
  | o, [], qs, _, h => by simpa using h
  | o, p :: ps, qs, .cons h1 h2 h3 h4, h => by
    refine .cons h1 h2 h3 (RC.append h4 ?_)
    rw [show o + 1 + ps.length = o + (p :: ps).length from by simp; omega]
    exact h

theorem flatten_len {z : Nat} : ∀ {es : List (List PV)}, (∀ e ∈ es, okEl z e) → es.flatten.length = es.length * z
  | [], _ => by simp
  | e :: es, h => by
    simp only [List.flatten_cons, List.length_append, List.length_cons]
    rw [flatten_len (fun x hx => h x (List.mem_cons_of_mem _ hx)), (h e List.mem_cons_self).1]
    rw [Nat.add_mul, Nat.one_mul, Nat.add_comm]

theorem RC.sub {w : World} {σ : Seal} {b o z : Nat} {es : List (List PV)} (he : ∀ e ∈ es, okEl z e) (h : RC w σ b o es.flatten) (l k : Nat) (hlk : l ≤ k) (hk : k ≤ es.length) :
    RC w σ b (o + l * z) ((es.take k).drop l).flatten := by
  have e1 : es = es.take k ++ es.drop k := (List.take_append_drop k es).symm
  have e2 : es.take k = (es.take k).take l ++ (es.take k).drop l := (List.take_append_drop l _).symm
  rw [e1, e2, List.flatten_append, List.flatten_append, List.append_assoc] at h
  obtain ⟨_, h⟩ := h.append_inv
  obtain ⟨h, _⟩ := h.append_inv
  rw [flatten_len (z := z) (fun x hx => he x (List.mem_of_mem_take (List.mem_of_mem_take hx)))] at h
  rw [List.length_take, List.length_take] at h
  rwa [show min l (min k es.length) = l from by omega] at h

theorem RC.elem {w : World} {σ : Seal} {b o z : Nat} {es : List (List PV)} (he : ∀ e ∈ es, okEl z e) (h : RC w σ b o es.flatten) {i : Nat} {c : List PV} (hc : es[i]? = some c) : RC w σ b (o + i * z) c := by
  have hi : i < es.length := by rw [List.getElem?_eq_some_iff] at hc; exact hc.1
  have h2 := RC.sub he h i (i + 1) (by omega) (by omega)
  have e : ((es.take (i + 1)).drop i).flatten = c := by
    rw [List.drop_take]
    have : List.take (i + 1 - i) (es.drop i) = [c] := by
      rw [show i + 1 - i = 1 from by omega]
      rw [List.getElem?_eq_some_iff] at hc
      obtain ⟨hi, rfl⟩ := hc
      rw [List.drop_eq_getElem_cons hi]; rfl
    rw [this]; simp
  rwa [e] at h2

theorem RC.cell {w : World} {σ : Seal} {b : Nat} : ∀ {o : Nat} {ps : List PV} {j : Nat} {p : PV}, RC w σ b o ps → ps[j]? = some p → ∃ v, w.cell? ⟨b, o + j, none⟩ = some v ∧ RP w σ p v
  | o, q :: ps, 0, p, .cons _ h2 h3 _, h => by simp at h; subst h; exact ⟨_, h2, h3⟩
  | o, q :: ps, j + 1, p, .cons _ _ _ h4, h => by
    obtain ⟨v, hv⟩ := h4.cell (by simpa using h)
    rw [show o + (j + 1) = o + 1 + j from by omega]
    exact ⟨v, hv⟩
  | _, [], _, _, _, h => by simp at h

-- numbers, texts
theorem ba_beq (a b : ByteArray) : (a == b) = decide (a = b) := by
  rw [Bool.eq_iff_iff, decide_eq_true_eq]
  obtain ⟨a⟩ := a
  obtain ⟨b⟩ := b
  show (a == b) = true ↔ _
  rw [beq_iff_eq]
  exact ⟨fun h => by rw [h], fun h => by injection h⟩

theorem binV_ok (w : World) {op : BinOp} {t : TypeId} {x y : Operand} {a b r : Value} (h : binV op a b = some r) :
    (do eqGuard op t x y a b; Go.binOp op t a b : Sem Value).run P w = .ok r w := by
  cases a <;> cases b <;> try (simp [binV] at h; done)
  · rename_i k a k' b
    have hg : (eqGuard op t x y (.int k a) (.int k' b)).run P w = .ok () w := by cases op <;> simp [eqGuard]
    rw [Sem.run_bind, hg, Result.andThen_ok]
    cases op <;> simp only [binV] at h <;> split at h <;> try cases h
    all_goals rename_i hs
    all_goals first
      | (obtain rfl := sameK_eq hs
         simp [Go.binOp, Op.intArith, Op.intCmp, wrapI_def, iEq_def, iLt_def, iLe_def, bne, Bool.beq_eq_decide_eq]; done)
      | (obtain rfl := sameK_eq hs
         split at h <;> try cases h
         rename_i h0
         simp only [iEq_def, decide_eq_true_eq] at h0
         simp [Go.binOp, Op.intDiv, wrapI_def, h0]; done)
      | (simp only [iLt_def, decide_eq_true_eq] at hs
         simp [Go.binOp, Op.shift, wrapI_def, iNat_def, hs]; done)
      | (obtain rfl := sameK_eq hs; cases h; done)
      | skip
  · rename_i a b
    have hg : (eqGuard op t x y (.string a) (.string b)).run P w = .ok () w := by cases op <;> simp [eqGuard]
    rw [Sem.run_bind, hg, Result.andThen_ok]
    cases op <;> simp only [binV] at h <;> try cases h
    · split at h <;> try cases h
      rename_i hs
      simp only [nLe_def, decide_eq_true_eq] at hs
      have e : IntKind.i64.max = 9223372036854775807 := by decide
      simp only [Go.binOp, Op.stringOp, e]
      rw [if_neg (by omega)]
      rfl
    · simp [Go.binOp, Op.stringOp, sEq_def, ← beq_toListBytes, ba_beq]
    · simp [Go.binOp, Op.stringOp, sEq_def, ← beq_toListBytes, ba_beq]

theorem unV_ok (w : World) {op : UnOp} {a r : Value} (h : unV op a = some r) : (Op.unary op a).run P w = .ok r w := by
  cases a <;> cases op <;> simp [unV] at h
  · subst h; simp [Op.unary]
  · subst h; simp [Op.unary, Op.intArith, wrapI_def]

theorem beq_ok (w : World) {op : BinOp} {t : TypeId} {x y : Operand} {a b : Bool} (ht : P.underlying t = some .bool) (hop : op = .eql ∨ op = .neq) :
    (do eqGuard op t x y (.bool a) (.bool b); Go.binOp op t (.bool a) (.bool b) : Sem Value).run P w = .ok (.bool (if op matches .neq then !(a == b) else a == b)) w := by
  have hg : (eqGuard op t x y (.bool a) (.bool b)).run P w = .ok () w := by cases op <;> simp [eqGuard]
  rw [Sem.run_bind, hg, Result.andThen_ok]
  rcases hop with rfl | rfl
  · simp [Go.binOp, Op.equal, Op.maxDepth, run_equalIn_bool w 9999 t a b ht]
  · simp [Go.binOp, Op.equal, Op.maxDepth, run_equalIn_bool w 9999 t a b ht]

/-- An array's elements, as if they were a struct's fields. -/
def arrField (e : TypeId) (z i : Nat) : Field := { name := "x", type := e, offset := i * z, embedded := false, tag := "", pkgPath := "", byteOffset := 0 }
def arrFields (e : TypeId) (z len : Nat) : Array Field := ⟨(List.range len).map (arrField e z)⟩
def eqFlds (P : Program) (t : TypeId) : Array Field :=
  match P.underlying t with
  | some (.struct fs) => fs
  | some (.array len e) => arrFields e (P.cellsOf e) len
  | _ => #[]
theorem arrFields_get {e : TypeId} {z len i : Nat} {f : Field} (h : (arrFields e z len)[i]? = some f) : i < len ∧ f = arrField e z i := by
  simp only [arrFields, List.getElem?_toArray, List.getElem?_map, Option.map_eq_some_iff] at h
  obtain ⟨j, hj, rfl⟩ := h
  obtain ⟨h1, h2⟩ := List.getElem?_eq_some_iff.1 hj
  simp at h1 h2
  subst h2
  exact ⟨h1, rfl⟩
theorem eqItems_fields (d : Nat) (e : TypeId) (z : Nat) (xs ys : Array Value) : ∀ is : List Nat, Op.eqItems d e z xs ys is = Op.eqFields d xs ys (is.map (arrField e z))
  | [] => rfl
  | i :: is => by
    simp only [List.map_cons, Op.eqItems, Op.eqFields, eqItems_fields d e z xs ys is]
    rw [if_pos (show (arrField e z i).name ≠ "_" by simp [arrField])]
    rfl

/-- A struct's fields are single cells of these kinds. -/
def flatFields (P : Program) : List Field → Nat → List CK → Bool
  | [], _, [] => true
  | f :: fs, i, k :: ks => Nat.beq f.offset i && f.name != "_" && (match P.underlying f.type, k with
    | some (.int _), .num | some .string, .txt | some .bool, .tru => true
    | _, _ => false) && flatFields P fs (i + 1) ks
  | _, _, _ => false

theorem eqFields_ok {E : Env} : ∀ (fs : List Field) (i : Nat) (ks : List CK) (cs ds : List PV) (pre pre' : List Value) (us vs : List Value) (r : Bool), pre.length = i → pre'.length = i →
    flatFields P fs i ks = true → RVs E cs us → RVs E ds vs → eqCells ks cs ds = some r →
    (Op.eqFields 9999 ⟨pre ++ us⟩ ⟨pre' ++ vs⟩ fs).run P E.w = .ok r E.w
  | [], i, [], cs, ds, pre, pre', us, vs, r, hl, hl', hf, hu, hv, he => by
    unfold eqCells at he
    split at he <;> first | (simp at he; subst he; simp [Op.eqFields]; done) | simp_all
  | [], _, _ :: _, _, _, _, _, _, _, _, _, _, hf, _, _, _ => by simp [flatFields] at hf
  | _ :: _, _, [], _, _, _, _, _, _, _, _, _, hf, _, _, _ => by simp [flatFields] at hf
  | f :: fs, i, k :: ks, cs, ds, pre, pre', us, vs, r, hl, hl', hf, hu, hv, he => by
    simp only [flatFields, Bool.and_eq_true] at hf
    obtain ⟨⟨⟨ho, hn⟩, hd⟩, hf⟩ := hf
    have ho := Nat.eq_of_beq_eq_true ho
    have hn : f.name ≠ "_" := by simpa using hn
    have key : ∀ (p q : PV) (cs ds : List PV) (us vs : List Value) (a b : Value), RVs E cs us → RVs E ds vs → (isAgg f.type).run P E.w = .ok false E.w →
        ∀ e : Bool, (Op.equalIn 9999 f.type a b).run P E.w = .ok e E.w → ∀ r', eqCells ks cs ds = some r' → r = (e && r') →
        (Op.eqFields 9999 ⟨pre ++ a :: us⟩ ⟨pre' ++ b :: vs⟩ (f :: fs)).run P E.w = .ok r E.w := by
      intro p q cs ds us vs a b hu hv hag e hq r' hr' hr
      have ih := eqFields_ok (E := E) fs (i + 1) ks cs ds (pre ++ [a]) (pre' ++ [b]) us vs
      simp only [List.append_assoc, List.singleton_append, List.length_append, List.length_singleton] at ih
      have pa : (Go.part f.type ⟨pre ++ a :: us⟩ f.offset).run P E.w = .ok a E.w := by
        simp [Go.part, hag, ho, ← hl]
      have pb : (Go.part f.type ⟨pre' ++ b :: vs⟩ f.offset).run P E.w = .ok b E.w := by
        simp [Go.part, hag, ho, ← hl']
      simp only [Op.eqFields, if_pos hn, Sem.run_bind, pa, pb, Result.andThen_ok, hq, Sem.run_ite]
      cases e with
      | false => simp at hr; subst hr; simp
      | true =>
        simp at hr; subst hr
        simp only [Bool.not_true, Bool.false_eq_true, if_false]
        exact ih _ (by omega) (by omega) hf hu hv hr'
    unfold eqCells at he
    split at he
    · simp_all
    · rename_i ks' s lx s' ly e1
      injection e1 with e1 e1'; subst e1 e1'
      cases hu with
      | cons hp hu => cases hv with
        | cons hq hv =>
          obtain rfl := hp.sc_inv
          obtain rfl := hq.sc_inv
          simp only [Option.map_eq_some_iff] at he
          obtain ⟨r', hr', hr⟩ := he
          have hu' : P.underlying f.type = some .string := by
            split at hd <;> first | assumption | (rename_i h1 h2; cases h2; done) | cases hd
          refine key (.sc (.string s)) (.sc (.string s')) _ _ _ _ _ _ hu hv (by simp [isAgg, underlying, hu']) (decide (s = s')) ?_ r' hr' (by rw [← hr, sEq_def])
          rw [show (9999 : Nat) = 9998 + 1 from rfl, run_equalIn_string E.w 9998 f.type s s' hu', ← beq_toListBytes, ba_beq]
    · rename_i ks' kd x lx kd' y ly e1
      injection e1 with e1 e1'; subst e1 e1'
      cases hu with
      | cons hp hu => cases hv with
        | cons hq hv =>
          obtain rfl := hp.sc_inv
          obtain rfl := hq.sc_inv
          split at he
          · rename_i hk
            obtain rfl := sameK_eq hk
            simp only [Option.map_eq_some_iff] at he
            obtain ⟨r', hr', hr⟩ := he
            obtain ⟨j, hu'⟩ : ∃ j, P.underlying f.type = some (.int j) := by
              split at hd <;> first | exact ⟨_, ‹_›⟩ | (rename_i h1 h2; cases h2; done) | cases hd
            refine key (.sc (.int kd x)) (.sc (.int kd y)) _ _ _ _ _ _ hu hv (by simp [isAgg, underlying, hu']) (decide (x = y)) ?_ r' hr' (by rw [← hr, iEq_def])
            rw [show (9999 : Nat) = 9998 + 1 from rfl, run_equalIn_int E.w 9998 f.type kd j x y hu', Bool.beq_eq_decide_eq]
          · cases he
    · rename_i ks' s lx s' ly e1
      injection e1 with e1 e1'; subst e1 e1'
      cases hu with
      | cons hp hu => cases hv with
        | cons hq hv =>
          obtain rfl := hp.sc_inv
          obtain rfl := hq.sc_inv
          simp only [Option.map_eq_some_iff] at he
          obtain ⟨r', hr', hr⟩ := he
          have hu' : P.underlying f.type = some .bool := by
            split at hd <;> first | assumption | (rename_i h1 h2; cases h2; done) | cases hd
          exact key (.sc (.bool s)) (.sc (.bool s')) _ _ _ _ _ _ hu hv (by simp [isAgg, underlying, hu']) (s == s') (run_equalIn_bool E.w 9998 f.type s s' hu') r' hr' hr.symm
    · cases he
end Go.Fw
end
section
/- What one operation does, IV: the pure operations, held against the annotated ones. -/
namespace Go.Fw
variable {Ω : Type} {O : OpqSem Ω} {N : Nat} {P : Program}

def sameB : BinOp → BinOp → Bool
  | .add, .add | .sub, .sub | .mul, .mul | .quo, .quo | .rem, .rem | .and, .and | .or, .or | .xor, .xor | .shl, .shl | .shr, .shr | .andNot, .andNot
  | .eql, .eql | .neq, .neq | .lss, .lss | .leq, .leq | .gtr, .gtr | .geq, .geq => true
  | _, _ => false
theorem sameB_eq {a b : BinOp} (h : sameB a b = true) : a = b := by cases a <;> cases b <;> first | rfl | cases h
def sameU : UnOp → UnOp → Bool
  | .neg, .neg | .not, .not => true
  | _, _ => false
theorem sameU_eq {a b : UnOp} (h : sameU a b = true) : a = b := by cases a <;> cases b <;> first | rfl | cases h
def isEq (op : BinOp) (neg : Bool) : Bool := match op, neg with
  | .eql, false | .neq, true => true
  | _, _ => false
def isSlice (P : Program) (t : TypeId) (z : Nat) : Bool :=
  match P.underlying t with
  | some (.slice e) => (match P.info? e with | some i => Nat.beq i.size z | none => false)
  | _ => false
def isStr (P : Program) (t : TypeId) : Bool := match P.underlying t with | some .string => true | _ => false
def isSl (P : Program) (t : TypeId) : Bool := match P.underlying t with | some (.slice _) => true | _ => false
def chkOO : Option Operand → Option Opd → Bool
  | none, none => true
  | some x, some y => chkO x y
  | _, _ => false
def chkParts (P : Program) (fs : Array Field) : List (Nat × Operand) → List (Nat × Option Nat × Opd) → Bool
  | [], [] => true
  | (i, x) :: ps, (off, n, y) :: qs => (match fs[i]? with
    | some f => Nat.beq f.offset off && isN (shapeOf P f.type) n
    | none => false) && chkO x y && chkParts P fs ps qs
  | _, _ => false

/-- The pure operations. -/
def chkPure (P : Program) : Op → IOp → Bool
  | .move x, .mv y => chkO x y
  | .pick c a b, .pick c' a' b' => chkO c c' && chkO a a' && chkO b b'
  | .build t ps, .build zero qs => (match P.underlying t, P.info? t with
    | some (.struct fs), some i => (match i.zero with
      | some z => chkVs z.cells.toList zero && chkParts P fs ps.toList qs && fs.all fun f => (P.info? f.type).isSome
      | none => false)
    | some (.array len e), some i => (match i.zero, P.info? e with
      | some z, some ie => chkVs z.cells.toList zero && chkParts P (arrFields e ie.size len) ps.toList qs
      | _, _ => false)
    | _, _ => false)
  | .binOp op _ x y _, .bin op' x' y' => sameB op op' && chkO x x' && chkO y y'
  | .binOp op t x y _, .beq neg x' y' => isEq op neg && (match P.underlying t with | some .bool => true | _ => false) && chkO x x' && chkO y y'
  | .binOp op t x y _, .eqs ks neg x' y' => isEq op neg && flatFields P (eqFlds P t).toList 0 ks && (match P.underlying t with | some (.struct _) => true | some (.array _ e) => (P.info? e).isSome | _ => false) &&
      !P.stoodInHeld t && !P.eqGuardType P.depth t && chkO x x' && chkO y y'
  | .binOp op t x y _, .eqnil neg x' => isEq op neg && (match P.underlying t with | some (.pointer _) => true | _ => false) && chkO x x' && (match y with | .const (.pointer none) => true | _ => false)
  | .binOp op t x y _, .eqnils neg x' => isEq op neg && isSl P t && chkO x x' && (match y with | .const (.slice none 0 0) => true | _ => false)
  | .unOp op _ x, .un op' x' => sameU op op' && chkO x x'
  | .convert s t x, .cvi k x' => (match P.underlying s, P.underlying t with | some _, some (.int k') => sameK k' k | _, _ => false) && chkO x x'
  | .convert s t x, .same x' => (match P.underlying s with | some _ => true | none => false) && isStr P t && chkO x x'
  | .fieldAddr s x f, .faddr off x' => (match P.underlying s with
    | some (.struct fs) => (match fs[f]? with
      | some fd => Nat.beq fd.offset off && (match P.info? fd.type with | some i => !Nat.beq i.size 0 | none => false)
      | none => false)
    | _ => false) && chkO x x'
  | .field s x f, .fld off n x' => (match P.underlying s with
    | some (.struct fs) => (match fs[f]? with
      | some fd => Nat.beq fd.offset off && isN (shapeOf P fd.type) n
      | none => false)
    | _ => false) && chkO x x'
  | .indexAddr t x i, .iaddr z x' i' => isSlice P t z && chkO x x' && chkO i i'
  | .indexAddr t x i, .aaddr len z x' i' => (match P.underlying t with
    | some (.array n e) => Nat.beq n len && (match P.info? e with | some i => Nat.beq i.size z | none => false)
    | _ => false) && chkO x x' && chkO i i'
  | .index t x i, .istr x' i' => isStr P t && chkO x x' && chkO i i'
  | .index t x i, .iarr len z n x' i' => (match P.underlying t with
    | some (.array m e) => Nat.beq m len && isN (shapeOf P e) n && (match P.info? e with | some i => Nat.beq i.size z | none => false)
    | _ => false) && chkO x x' && chkO i i'
  | .slice t x lo hi none, .slice z x' lo' hi' => isSlice P t z && chkO x x' && chkOO lo lo' && chkOO hi hi'
  | .slice t x lo hi none, .sslice x' lo' hi' => isStr P t && chkO x x' && chkOO lo lo' && chkOO hi hi'
  | .nilCheck x, .nilchk x' => chkO x x'
  | .makeFunc (.func f) a b, .mkfn g a' b' => Nat.beq f g && chkOs a.toList a' && chkOs b.toList b'
  | .extract x i, .extr x' i' => chkO x x' && Nat.beq i i'
  | .call { callee := .builtin .len, args, argTypes }, .len x' => (match args.toList with | [x] => chkO x x' | _ => false) && (match argTypes[0]? with | some t => isSl P t | none => false)
  | .call { callee := .builtin .len, args, argTypes }, .slen x' => (match args.toList with | [x] => chkO x x' | _ => false) && (match argTypes[0]? with | some t => isStr P t | none => false)
  | .call { callee := .builtin .max, args, argTypes := _ }, .mm true x' y' => (match args.toList with | [x, y] => chkO x x' && chkO y y' | _ => false)
  | .call { callee := .builtin .min, args, argTypes := _ }, .mm false x' y' => (match args.toList with | [x, y] => chkO x x' && chkO y y' | _ => false)
  | _, _ => false

/-- It yields this, and leaves the world as it is. -/
def Yields (P : Program) (a : Act) (go : Oper) (w : World) (v : Value) : Prop := (execOp a.eval go).run P w = .ok (.value v) w

theorem yields_of {a : Act} {go : Oper} {w : World} {v : Value} {s : Sem Value} (he : execOp a.eval go = (do pure (.value (← s)) : Sem Next)) (hs : s.run P w = .ok v w) : Yields P a go w v := by
  simp [Yields, he, hs]

theorem sliceBound_ok {E : Env} {top d : Nat} {lo : Option Opd} {x : Option Operand} {st : FS Ω} {a : Act} {τ : Nat → Tag} (hI : Inv O N st a E τ) (hk : chkOO x lo = true) {r : Nat}
    (h : sliceBound d top (lo.map st.rd) = some r) : (lo = none ∧ x = none ∧ r = d) ∨ ∃ k i, x.map a.eval = some (.int k i) ∧ 0 ≤ i ∧ i ≤ top ∧ r = i.toNat := by
  cases lo with
  | none => cases x with
    | none => simp [sliceBound] at h; exact .inl ⟨rfl, rfl, h.symm⟩
    | some _ => simp [chkOO] at hk
  | some y => cases x with
    | none => simp [chkOO] at hk
    | some x =>
      right
      have hv := chkO_RV hI (show chkO x y = true from hk)
      simp only [Option.map_some, sliceBound] at h
      generalize st.rd y = p at h hv
      cases p with
      | sc u =>
        cases u with
        | int k i =>
          obtain hv := hv.sc_inv
          simp only [intOf?] at h
          split at h
          · rename_i hr
            simp only [inR1_def, decide_eq_true_eq] at hr
            simp only [Option.some.injEq, iNat_def] at h
            exact ⟨k, i, by simp [hv], hr.1, hr.2, h.symm⟩
          · cases h
        | _ => simp [intOf?] at h
      | _ => simp [intOf?] at h

theorem run_sliceBound_in (w : World) (k : IntKind) (i : Int) (y : Nat) (c : BoundsCode) (h0 : 0 ≤ i) (h1 : i ≤ y) : (Instr.sliceBound (.int k i) y c).run P w = .ok i.toNat w := by
  simp [Instr.sliceBound, asIntOf, h0, h1]

theorem setCells_len : ∀ (off : Nat) (vs cs : List PV), (setCells off vs cs).length = cs.length
  | _, [], _ => rfl
  | off, v :: vs, cs => by rw [setCells, setCells_len]; simp
theorem setCells_own {D : List Nat} : ∀ (off : Nat) {vs cs : List PV}, ownSubs D vs = true → ownSubs D cs = true → ownSubs D (setCells off vs cs) = true
  | _, [], _, _, h => h
  | off, v :: vs, cs, hv, h => by
    simp only [ownSubs, Bool.and_eq_true] at hv
    exact setCells_own (off + 1) hv.2 (ownSubs_set off h hv.1)

def setVals (off : Nat) (vs cs : List Value) : List Value :=
  match vs with
  | [] => cs
  | v :: vs => setVals (off + 1) vs (cs.set off v)
theorem setCells_RVs {E : Env} : ∀ (off : Nat) {vs cs : List PV} {us ws : List Value}, RVs E vs us → RVs E cs ws → RVs E (setCells off vs cs) (setVals off us ws)
  | _, _, _, _, _, .nil, h => h
  | off, _, _, _, _, .cons hp hs, h => setCells_RVs (off + 1) hs (h.set off hp)

theorem cellOK_one {E : Env} {p : PV} {v : Value} (h : cellOK p = true) (hv : RV E p v) : v.oneCell' = true ∧ v.cells = #[v] := by
  cases p with
  | undef => cases h
  | agg _ => cases h
  | tup _ => cases h
  | sc u =>
    have e := hv.sc_inv
    rw [e]
    cases u <;> first | exact ⟨rfl, rfl⟩ | cases h
  | sl f z es => rcases hv.sl_inv.sl_inv with ⟨rfl, _⟩ | ⟨b, o, cap, rfl, _⟩ | ⟨a, cap, rfl, _⟩ <;> exact ⟨rfl, rfl⟩
  | own k o => obtain rfl := hv.own_inv; exact ⟨rfl, rfl⟩
  | ptr d k o => obtain ⟨rfl, _⟩ := hv.ptr_inv; exact ⟨rfl, rfl⟩
  | fresh o => cases hv with
    | pure h => cases h
    | fresh => exact ⟨rfl, rfl⟩
  | elp z es i o => obtain ⟨b, o', rfl, _⟩ := hv.elp_inv; exact ⟨rfl, rfl⟩
  | clo f a b => obtain ⟨va, vb, rfl, _⟩ := hv.clo_inv; exact ⟨rfl, rfl⟩

theorem cellsOf_ok {E : Env} {n : Option Nat} {p : PV} {cs : List PV} {v : Value} (h : cellsOf n p = some cs) (hv : RV E p v) :
    (∃ vs, RVs E cs vs ∧ v.cells = ⟨vs⟩) ∧ cs.length = n.getD 1 := by
  cases n with
  | none =>
    simp only [cellsOf] at h
    split at h
    · rename_i hc
      simp only [Option.some.injEq] at h; subst h
      exact ⟨⟨[v], .cons hv .nil, (cellOK_one hc hv).2⟩, rfl⟩
    · cases h
  | some n =>
    cases p <;> simp only [cellsOf] at h <;> try cases h
    split at h <;> try cases h
    rename_i hl
    obtain ⟨vs, rfl, hs⟩ := hv.agg_inv
    exact ⟨⟨vs, hs, rfl⟩, Nat.eq_of_beq_eq_true hl⟩

theorem addr_add (b o n : Nat) : (⟨b, o, none⟩ : Addr).add n = ⟨b, o + n, none⟩ := by
  unfold Addr.add; split
  · rename_i h; rw [h]; rfl
  · rfl

theorem isSl_of {t : TypeId} (h : isSl P t = true) : ∃ e, P.underlying t = some (.slice e) := by
  unfold isSl at h; split at h
  · exact ⟨_, ‹_›⟩
  · cases h
theorem isStr_of {t : TypeId} (h : isStr P t = true) : P.underlying t = some .string := by
  unfold isStr at h; split at h
  · assumption
  · cases h
theorem isSlice_of {t : TypeId} {z : Nat} (h : isSlice P t z = true) : ∃ e i, P.underlying t = some (.slice e) ∧ P.info? e = some i ∧ i.size = z := by
  unfold isSlice at h; split at h
  · split at h
    · exact ⟨_, _, ‹_›, ‹_›, Nat.eq_of_beq_eq_true h⟩
    · cases h
  · cases h
theorem isEq_of {op : BinOp} {neg : Bool} (h : isEq op neg = true) : (op = .eql ∧ neg = false) ∨ (op = .neq ∧ neg = true) := by
  unfold isEq at h; split at h
  · exact .inl ⟨rfl, rfl⟩
  · exact .inr ⟨rfl, rfl⟩
  · cases h

theorem fill_parts {E : Env} {fs : Array Field} {places : Array (Nat × Nat)} (hpl : ∀ (i : Nat) (f : Field), fs[i]? = some f → ∃ inf, P.info? f.type = some inf ∧ places[i]? = some (f.offset, inf.size)) :
    ∀ (ps : List (Nat × Operand)) (qs : List (Nat × Option Nat × Opd)) (rd : Opd → PV) (ev : Operand → Value) (cs ds : List PV) (vs : List Value),
    (∀ x y, chkO x y = true → RV E (rd y) (ev x)) → chkParts P fs ps qs = true → RVs E cs vs → buildParts (qs.map fun p => (p.1, p.2.1, rd p.2.2)) cs = some ds →
    ∃ us, Instr.fill (places[·]?) ⟨vs⟩ (ps.map fun p => (p.1, ev p.2)) = some ⟨us⟩ ∧ RVs E ds us
  | [], [], rd, ev, cs, ds, vs, _, _, hv, h => by
    simp only [List.map_nil, buildParts, Option.some.injEq] at h
    subst h
    exact ⟨vs, rfl, hv⟩
  | [], _ :: _, _, _, _, _, _, _, h, _, _ => by simp [chkParts] at h
  | _ :: _, [], _, _, _, _, _, _, h, _, _ => by simp [chkParts] at h
  | (i, x) :: ps, (off, n, y) :: qs, rd, ev, cs, ds, vs, hr, hk, hv, h => by
    simp only [chkParts, Bool.and_eq_true] at hk
    obtain ⟨⟨hf, hx⟩, hk⟩ := hk
    split at hf
    · rename_i f hfs
      simp only [Bool.and_eq_true] at hf
      obtain ⟨ho, hn⟩ := hf
      have ho := Nat.eq_of_beq_eq_true ho
      have hN := isN_eq hn
      obtain ⟨inf, hinf, hplace⟩ := hpl i f hfs
      simp only [List.map_cons, buildParts] at h
      have hxy := (hr x y hx).canon
      cases hc : cellsOf n (canon (rd y)) with
      | none => simp [hc] at h
      | some c =>
        simp only [hc] at h
        split at h
        · rename_i hle
          have hle := Nat.le_of_ble_eq_true hle
          obtain ⟨⟨us, hus, hcells⟩, hlen⟩ := cellsOf_ok hc hxy
          have hsz : inf.size = c.length := by
            cases n with
            | none => obtain ⟨_, i', _, hi', h1, _⟩ := shape_none E.w hN; rw [hinf] at hi'; injection hi' with e; subst e; rw [h1, hlen]; rfl
            | some n => obtain ⟨_, i', _, hi', h1, _⟩ := shape_some E.w hN; rw [hinf] at hi'; injection hi' with e; subst e; rw [h1, hlen]; rfl
          have hul := hus.length
          have hvl := hv.length
          have hfold : ∀ (us : List Value) (off : Nat) (vs : List Value) (k : Nat), (us.zipIdx k).foldl (fun (cs : Array Value) (p : Value × Nat) => cs.setIfInBounds (off + p.2) p.1) (⟨vs⟩ : Array Value) = ⟨setVals (off + k) us vs⟩ := by
            intro us
            induction us with
            | nil => intro off vs k; rfl
            | cons u us ih =>
              intro off vs k
              simp only [List.zipIdx_cons, List.foldl_cons]
              rw [show (Array.mk vs).setIfInBounds (off + k) u = (⟨vs.set (off + k) u⟩ : Array Value) from by apply Array.toList_inj.1; simp]
              rw [ih off _ (k + 1)]
              rw [show off + (k + 1) = off + k + 1 from by omega]
              rfl
          obtain ⟨ws, hw1, hw2⟩ := fill_parts hpl ps qs rd ev _ ds _ hr hk (setCells_RVs off hus hv) h
          refine ⟨ws, ?_, hw2⟩
          simp only [List.map_cons, Instr.fill, hplace]
          rw [hcells, ho]
          rw [if_neg]
          · rw [← Array.foldl_toList]
            simp only [Array.toList_zipIdx]
            rw [show (us.zipIdx).foldl (fun (cs : Array Value) (x : Value × Nat) => cs.setIfInBounds (off + x.2) x.1) (⟨vs⟩ : Array Value) = _ from hfold us off vs 0]
            exact hw1
          · simp only [bne_iff_ne, ne_eq, Bool.or_eq_true, decide_eq_true_eq, not_or]
            constructor
            · simp [hul, hsz]
            · simp [hul, hvl]; omega
        · cases h
    · cases hf
end Go.Fw
end
section
/- What one operation does, V: each pure operation. -/
namespace Go.Fw
variable {Ω : Type} {O : OpqSem Ω} {N : Nat} {P : Program}

theorem noFlag_canon (p : PV) : noFlag (canon p) = true := by cases p <;> rfl

theorem equalIn_pnil (w : World) (d : Nat) {t e : TypeId} (ht : P.underlying t = some (.pointer e)) (q : Option Addr) : (Op.equalIn (d + 1) t (.pointer q) (.pointer none)).run P w = .ok q.isNone w := by
  cases q <;> simp [Op.equalIn, underlying, ht]
theorem equalIn_snil (w : World) (d : Nat) {t e : TypeId} (ht : P.underlying t = some (.slice e)) (q : Option Addr) (n c : Nat) :
    (Op.equalIn (d + 1) t (.slice q n c) (.slice none 0 0)).run P w = .ok q.isNone w := by
  cases q <;> simp [Op.equalIn, underlying, ht]
theorem binOp_eql (w : World) {t : TypeId} {x y : Value} {b : Bool} (hx : (∃ q, x = .pointer q ∧ y = .pointer none) ∨ ∃ q n c, x = .slice q n c ∧ y = .slice none 0 0)
    (h : (Op.equalIn 10000 t x y).run P w = .ok b w) : (Go.binOp .eql t x y).run P w = .ok (.bool b) w ∧ (Go.binOp .neq t x y).run P w = .ok (.bool (!b)) w := by
  have e : (Op.equal t x y).run P w = .ok b w := h
  rcases hx with ⟨q, rfl, rfl⟩ | ⟨q, n, c, rfl, rfl⟩
  · exact ⟨by simp only [Go.binOp, Sem.run_bind, e, Result.andThen_ok, Sem.run_pure], by simp only [Go.binOp, Sem.run_bind, e, Result.andThen_ok, Sem.run_pure]⟩
  · exact ⟨by simp only [Go.binOp, Sem.run_bind, e, Result.andThen_ok, Sem.run_pure], by simp only [Go.binOp, Sem.run_bind, e, Result.andThen_ok, Sem.run_pure]⟩

/-- A pure operation's answer. -/
def POK (P : Program) (st : FS Ω) (a : Act) (E : Env) (go : Oper) (p : PV) : Prop :=
  ∃ v, Yields P a go E.w v ∧ RV E p v ∧ ownSub (keys st.L) p = true ∧ noFlag p = true

section
variable {st : FS Ω} {a : Act} {E : Env} {τ : Nat → Tag} (hI : Inv O N st a E τ) {go : Oper}
include hI

theorem y_mvc {x : Operand} {y : Opd} (hop : go.op = .move x) (hk : chkO x y = true) (hy : ∀ t, y ≠ .t t) : POK P st a E go (st.rd y) := by
  refine ⟨a.eval x, by simp [Yields, execOp, hop], chkO_RV hI hk, chkO_own hI hk, ?_⟩
  cases y with
  | t n => exact absurd rfl (hy n)
  | c p =>
    cases x with
    | const v => exact (chkV_flag (v := v) hk).1
    | _ => simp [chkO] at hk
  | f g => rfl

theorem y_pick {c x y : Operand} {c' x' y' : Opd} (hop : go.op = .pick c x y) (hc : chkO c c' = true) (hx : chkO x x' = true) (hy : chkO y y' = true) {p : PV}
    (h : pickP (st.rd c') (st.rd x') (st.rd y') = some p) : POK P st a E go p := by
  have rc := chkO_RV hI hc
  have rx := chkO_RV hI hx
  have ry := chkO_RV hI hy
  have ox := chkO_own hI hx
  have oy := chkO_own hI hy
  generalize st.rd c' = pc at h rc
  unfold pickP at h
  split at h
  · rename_i t
    simp only [Option.some.injEq] at h
    subst h
    have e := rc.sc_inv
    cases t
    · exact ⟨a.eval y, by simp [Yields, execOp, hop, e, asBool], ry.canon, by rw [ownSub_canon]; exact oy, noFlag_canon _⟩
    · exact ⟨a.eval x, by simp [Yields, execOp, hop, e, asBool], rx.canon, by rw [ownSub_canon]; exact ox, noFlag_canon _⟩
  · cases h

theorem y_bin {op op' : BinOp} {t t' : TypeId} {x y : Operand} {x' y' : Opd} (hop : go.op = .binOp op t x y t') (ho : sameB op op' = true) (hx : chkO x x' = true) (hy : chkO y y' = true) {p : PV}
    (h : binP op' (st.rd x') (st.rd y') = some p) : POK P st a E go p := by
  obtain rfl := sameB_eq ho
  have rx := chkO_RV hI hx
  have ry := chkO_RV hI hy
  generalize st.rd x' = px at h rx
  generalize st.rd y' = py at h ry
  unfold binP at h
  split at h
  · rename_i u v
    have ex := rx.sc_inv
    have ey := ry.sc_inv
    simp only [Option.map_eq_some_iff] at h
    obtain ⟨r, hr, rfl⟩ := h
    refine ⟨r, ?_, .pure (.sc r), rfl, rfl⟩
    refine yields_of (s := do eqGuard op t x y (a.eval x) (a.eval y); Go.binOp op t (a.eval x) (a.eval y)) (by simp [execOp, hop]) ?_
    rw [ex, ey]; exact binV_ok E.w hr
  · cases h

theorem y_beq {op : BinOp} {neg : Bool} {t t' : TypeId} {x y : Operand} {x' y' : Opd} (hop : go.op = .binOp op t x y t') (ho : isEq op neg = true) (ht : P.underlying t = some .bool)
    (hx : chkO x x' = true) (hy : chkO y y' = true) {p : PV} (h : beqP neg (st.rd x') (st.rd y') = some p) : POK P st a E go p := by
  have rx := chkO_RV hI hx
  have ry := chkO_RV hI hy
  generalize st.rd x' = px at h rx
  generalize st.rd y' = py at h ry
  unfold beqP at h
  split at h
  · rename_i u v
    have ex := rx.sc_inv
    have ey := ry.sc_inv
    simp only [Option.some.injEq] at h
    subst h
    refine ⟨_, yields_of (s := do eqGuard op t x y (a.eval x) (a.eval y); Go.binOp op t (a.eval x) (a.eval y)) (by simp [execOp, hop]) (by rw [ex, ey]; exact beq_ok E.w ht (by rcases isEq_of ho with h | h <;> simp [h.1])), ?_, rfl, rfl⟩
    rcases isEq_of ho with ⟨rfl, rfl⟩ | ⟨rfl, rfl⟩ <;> exact .pure (.sc _)
  · cases h

theorem y_eqs {op : BinOp} {neg : Bool} {ks : List CK} {t t' : TypeId} {x y : Operand} {x' y' : Opd} (hop : go.op = .binOp op t x y t') (ho : isEq op neg = true)
    (hf : flatFields P (eqFlds P t).toList 0 ks = true) (ht : (∃ fs, P.underlying t = some (.struct fs)) ∨ ∃ len e i, P.underlying t = some (.array len e) ∧ P.info? e = some i) (hs : P.stoodInHeld t = false) (hg : P.eqGuardType P.depth t = false)
    (hx : chkO x x' = true) (hy : chkO y y' = true) {p : PV} (h : eqsP ks neg (st.rd x') (st.rd y') = some p) : POK P st a E go p := by
  have rx := chkO_RV hI hx
  have ry := chkO_RV hI hy
  generalize st.rd x' = px at h rx
  generalize st.rd y' = py at h ry
  unfold eqsP at h
  split at h
  · rename_i cs ds
    obtain ⟨us, ex, hu⟩ := rx.agg_inv
    obtain ⟨vs, ey, hv⟩ := ry.agg_inv
    simp only [Option.map_eq_some_iff] at h
    obtain ⟨r, hr, rfl⟩ := h
    have hq := eqFields_ok (P := P) (E := E) (eqFlds P t).toList 0 ks cs ds [] [] us vs r rfl rfl hf hu hv hr
    simp only [List.nil_append] at hq
    have hq : (Op.equalIn (9999 + 1) t (.agg ⟨us⟩) (.agg ⟨vs⟩)).run P E.w = .ok r E.w := by
      rcases ht with ⟨fs, hfs⟩ | ⟨len, e, i, hfs, hi⟩
      · have hst : P.underlying t = some (.struct (P.fieldsOf t)) := by simp [Program.fieldsOf, hfs]
        rw [run_equalIn_struct E.w 9999 t ⟨us⟩ ⟨vs⟩ hst hs]
        have : eqFlds P t = P.fieldsOf t := by simp [eqFlds, Program.fieldsOf, hfs]
        rw [this] at hq
        exact hq
      · rw [run_equalIn_array E.w 9999 ⟨us⟩ ⟨vs⟩ hfs hi, eqItems_fields]
        have : eqFlds P t = arrFields e (P.cellsOf e) len := by simp [eqFlds, hfs]
        rw [this] at hq
        exact hq
    refine ⟨.bool (if neg then !r else r), yields_of (s := do eqGuard op t x y (a.eval x) (a.eval y); Go.binOp op t (a.eval x) (a.eval y)) (by simp [execOp, hop]) ?_, .pure (.sc _), rfl, rfl⟩
    rw [ex, ey, Sem.run_bind, run_eqGuard_agg E.w op t x y ⟨us⟩ ⟨vs⟩ hg, Result.andThen_ok]
    rcases isEq_of ho with ⟨rfl, rfl⟩ | ⟨rfl, rfl⟩
    · rw [run_eql_struct, hq]; rfl
    · rw [run_neq_struct, hq]; rfl
  · cases h

theorem y_eqnil {op : BinOp} {neg : Bool} {t t' : TypeId} {x : Operand} {x' : Opd} (hop : go.op = .binOp op t x (.const (.pointer none)) t') (ho : isEq op neg = true)
    (ht : ∃ e, P.underlying t = some (.pointer e)) (hx : chkO x x' = true) {p : PV} (h : eqnilP neg (st.rd x') = some p) : POK P st a E go p := by
  have rx := chkO_RV hI hx
  obtain ⟨e, ht⟩ := ht
  have key : ∀ q : Option Addr, a.eval x = .pointer q → Yields P a go E.w (.bool (if neg then !q.isNone else q.isNone)) := by
    intro q hq
    refine yields_of (s := do eqGuard op t x (.const (.pointer none)) (a.eval x) (.pointer none); Go.binOp op t (a.eval x) (.pointer none)) (by simp [execOp, hop, Act.eval]) ?_
    rw [hq]
    have hg : (eqGuard op t x (.const (.pointer none)) (.pointer q) (.pointer none)).run P E.w = .ok () E.w := by cases op <;> simp [eqGuard]
    rw [Sem.run_bind, hg, Result.andThen_ok]
    have hb := binOp_eql E.w (t := t) (.inl ⟨q, rfl, rfl⟩) (equalIn_pnil E.w 9999 ht q)
    rcases isEq_of ho with ⟨rfl, rfl⟩ | ⟨rfl, rfl⟩
    · exact hb.1
    · exact hb.2
  generalize st.rd x' = px at h rx
  unfold eqnilP at h
  split at h
  · simp only [Option.some.injEq] at h; subst h
    have := key _ rx.own_inv
    refine ⟨_, this, ?_, rfl, rfl⟩
    cases neg <;> exact .pure (.sc _)
  · simp only [Option.some.injEq] at h; subst h
    have := key _ rx.ptr_inv.1
    refine ⟨_, this, ?_, rfl, rfl⟩
    cases neg <;> exact .pure (.sc _)
  · simp only [Option.some.injEq] at h; subst h
    have := key _ rx.sc_inv
    refine ⟨_, this, ?_, rfl, rfl⟩
    cases neg <;> exact .pure (.sc _)
  · cases h

theorem y_eqnils {op : BinOp} {neg : Bool} {t t' : TypeId} {x : Operand} {x' : Opd} (hop : go.op = .binOp op t x (.const (.slice none 0 0)) t') (ho : isEq op neg = true)
    (ht : isSl P t = true) (hx : chkO x x' = true) {p : PV} (h : eqnilsP neg (st.rd x') = some p) : POK P st a E go p := by
  have rx := chkO_RV hI hx
  obtain ⟨e, ht⟩ := isSl_of ht
  have key : ∀ (q : Option Addr) (n c : Nat), a.eval x = .slice q n c → Yields P a go E.w (.bool (if neg then !q.isNone else q.isNone)) := by
    intro q n c hq
    refine yields_of (s := do eqGuard op t x (.const (.slice none 0 0)) (a.eval x) (.slice none 0 0); Go.binOp op t (a.eval x) (.slice none 0 0)) (by simp [execOp, hop, Act.eval]) ?_
    rw [hq]
    have hg : (eqGuard op t x (.const (.slice none 0 0)) (.slice q n c) (.slice none 0 0)).run P E.w = .ok () E.w := by cases op <;> simp [eqGuard]
    rw [Sem.run_bind, hg, Result.andThen_ok]
    have hb := binOp_eql E.w (t := t) (.inr ⟨q, n, c, rfl, rfl⟩) (equalIn_snil E.w 9999 ht q n c)
    rcases isEq_of ho with ⟨rfl, rfl⟩ | ⟨rfl, rfl⟩
    · exact hb.1
    · exact hb.2
  generalize st.rd x' = px at h rx
  unfold eqnilsP at h
  split at h
  · simp only [Option.some.injEq] at h; subst h
    rcases rx.sl_inv.sl_inv with ⟨e, _⟩ | ⟨b, o, cap, e, hf, _⟩ | ⟨_, _, _, _, hf⟩
    · refine ⟨_, key _ _ _ e, ?_, rfl, rfl⟩
      cases neg <;> exact .pure (.sc _)
    · exact absurd rfl hf
    · exact absurd rfl hf
  · simp only [Option.some.injEq] at h; subst h
    rcases rx.sl_inv.sl_inv with ⟨_, e⟩ | ⟨b, o, cap, e, hf, _⟩ | ⟨_, _, _, e, _⟩
    rotate_right
    · cases e
    · cases e
    · refine ⟨_, key _ _ _ e, ?_, rfl, rfl⟩
      cases neg <;> exact .pure (.sc _)
  · cases h

theorem y_un {op op' : UnOp} {t : TypeId} {x : Operand} {x' : Opd} (hop : go.op = .unOp op t x) (ho : sameU op op' = true) (hx : chkO x x' = true) {p : PV}
    (h : unP op' (st.rd x') = some p) : POK P st a E go p := by
  obtain rfl := sameU_eq ho
  have rx := chkO_RV hI hx
  generalize st.rd x' = px at h rx
  unfold unP at h
  split at h
  · have ex := rx.sc_inv
    simp only [Option.map_eq_some_iff] at h
    obtain ⟨r, hr, rfl⟩ := h
    exact ⟨r, yields_of (s := Op.unary op (a.eval x)) (by simp [execOp, hop]) (by rw [ex]; exact unV_ok E.w hr), .pure (.sc r), rfl, rfl⟩
  · cases h

theorem y_cvi {s t : TypeId} {k k' : IntKind} {x : Operand} {x' : Opd} (hop : go.op = .convert s t x) (hs : ∃ d, P.underlying s = some d) (ht : P.underlying t = some (.int k')) (hk : sameK k' k = true)
    (hx : chkO x x' = true) {p : PV} (h : cviP k (st.rd x') = some p) : POK P st a E go p := by
  obtain rfl := sameK_eq hk
  obtain ⟨d, hs⟩ := hs
  have rx := chkO_RV hI hx
  generalize st.rd x' = px at h rx
  unfold cviP at h
  split at h
  · have ex := rx.sc_inv
    simp only [Option.some.injEq] at h; subst h
    refine ⟨_, yields_of (s := Go.convert s t (a.eval x)) (by simp [execOp, hop]) ?_, .pure (.sc _), rfl, rfl⟩
    rw [ex]
    simp [Go.convert, underlying, hs, ht, Conv.intToInt, wrapI_def]
  · cases h

theorem y_same {s t : TypeId} {x : Operand} {x' : Opd} (hop : go.op = .convert s t x) (hs : ∃ d, P.underlying s = some d) (ht : P.underlying t = some .string)
    (hx : chkO x x' = true) {p : PV} (h : sameP (st.rd x') = some p) : POK P st a E go p := by
  obtain ⟨d, hs⟩ := hs
  have rx := chkO_RV hI hx
  generalize st.rd x' = px at h rx
  unfold sameP at h
  split at h
  · have ex := rx.sc_inv
    simp only [Option.some.injEq] at h; subst h
    refine ⟨_, yields_of (s := Go.convert s t (a.eval x)) (by simp [execOp, hop]) ?_, .pure (.sc _), rfl, rfl⟩
    rw [ex]
    simp [Go.convert, underlying, hs, ht]
  · cases h

theorem y_faddr {s : TypeId} {f off : Nat} {fs : Array Field} {fd : Field} {i : TypeInfo} {x : Operand} {x' : Opd} (hop : go.op = .fieldAddr s x f) (hs : P.underlying s = some (.struct fs)) (hf : fs[f]? = some fd)
    (ho : fd.offset = off) (hi : P.info? fd.type = some i) (hz : i.size ≠ 0) (hx : chkO x x' = true) {p : PV} (h : faddrP off (st.rd x') = some p) : POK P st a E go p := by
  have rx := chkO_RV hI hx
  have ox := chkO_own hI hx
  have key : ∀ b o, a.eval x = .pointer (some ⟨b, o, none⟩) → Yields P a go E.w (.pointer (some ⟨b, o + off, none⟩)) := by
    intro b o e
    refine yields_of (s := Instr.fieldAt s (a.eval x) f) (by simp [execOp, hop]) ?_
    rw [e]
    simp [Instr.fieldAt, underlying, hs, hf, Instr.sureAddr, fieldPlace, sizeOf, typeInfo, hi, hz, addr_add, ho]
  generalize st.rd x' = px at h rx ox
  unfold faddrP at h
  split at h
  · simp only [Option.some.injEq] at h; subst h
    exact ⟨_, key _ _ rx.own_inv, .own _ _, ox, rfl⟩
  · simp only [Option.some.injEq] at h; subst h
    obtain ⟨e, hd⟩ := rx.ptr_inv
    exact ⟨_, key _ _ e, .ptr hd _ _, rfl, rfl⟩
  · simp only [Option.some.injEq] at h; subst h
    obtain ⟨b, o, e, hi', he, hc⟩ := rx.elp_inv
    refine ⟨_, key _ _ e, ?_, rfl, rfl⟩
    rw [Nat.add_assoc]
    exact .elp hi' he hc
  · cases h

theorem y_fld {s : TypeId} {f off : Nat} {n : Option Nat} {fs : Array Field} {fd : Field} {x : Operand} {x' : Opd} (hop : go.op = .field s x f) (hs : P.underlying s = some (.struct fs)) (hf : fs[f]? = some fd)
    (ho : fd.offset = off) (hn : isN (shapeOf P fd.type) n = true) (hx : chkO x x' = true) {p : PV} (h : fldP off n (st.rd x') = some p) : POK P st a E go p := by
  have rx := chkO_RV hI hx
  have ox := chkO_own hI hx
  generalize st.rd x' = px at h rx ox
  unfold fldP at h
  split at h
  · rename_i cs
    obtain ⟨vs, e, hv⟩ := rx.agg_inv
    obtain ⟨v, hr, hq⟩ := part_ok hn hv h
    refine ⟨v, yields_of (s := Instr.field s (a.eval x) f) (by simp [execOp, hop]) ?_, hq, part_own (by simpa [ownSub] using ox) h, part_flag h⟩
    rw [e]
    simp [Instr.field, underlying, hs, hf, asAgg, ho, hr]
  · cases h

theorem asInt_of {x : Operand} {x' : Opd} (hx : chkO x x' = true) {k : IntKind} {i : Int} (h : st.rd x' = .sc (.int k i)) : a.eval x = .int k i := by
  have := chkO_RV hI hx
  rw [h] at this
  exact this.sc_inv

theorem y_iaddr {t e : TypeId} {z : Nat} {inf : TypeInfo} {x i : Operand} {x' i' : Opd} (hop : go.op = .indexAddr t x i) (ht : P.underlying t = some (.slice e)) (hi : P.info? e = some inf) (hz : inf.size = z)
    (hx : chkO x x' = true) (hii : chkO i i' = true) {p : PV} (h : iaddrP z (st.rd x') (st.rd i') = some p) : POK P st a E go p := by
  have rx := chkO_RV hI hx
  have ri := chkO_RV hI hii
  generalize st.rd x' = px at h rx
  generalize st.rd i' = pi at h ri
  unfold iaddrP at h
  split at h
  · rename_i f z' es k j
    have ei := ri.sc_inv
    split at h <;> try cases h
    rename_i hzz
    obtain rfl := Nat.eq_of_beq_eq_true hzz
    split at h <;> try cases h
    rename_i hr
    simp only [inR_def, decide_eq_true_eq] at hr
    rcases rx.sl_inv.sl_inv with ⟨_, e0⟩ | ⟨b, o, cap, ex, hf, hl, he, hc⟩ | ⟨_, _, _, e0, _⟩
    rotate_right
    · subst e0; simp at hr; omega
    · subst e0; simp at hr; omega
    · refine ⟨.pointer (some ⟨b, o + iNat j * z + 0, none⟩), yields_of (s := Instr.indexAt t (a.eval x) (a.eval i)) (by simp [execOp, hop]) ?_, .elp (by rw [iNat_def]; omega) he hc, rfl, rfl⟩
      rw [ex, ei]
      simp [Instr.indexAt, asIntOf, underlying, ht, hr.1, hr.2, sizeOf, typeInfo, hi, hz, addr_add, iNat_def]
  · cases h

theorem y_aaddr {t e : TypeId} {len z : Nat} {inf : TypeInfo} {x i : Operand} {x' i' : Opd} (hop : go.op = .indexAddr t x i) (ht : P.underlying t = some (.array len e)) (hi : P.info? e = some inf) (hz : inf.size = z)
    (hx : chkO x x' = true) (hii : chkO i i' = true) {p : PV} (h : aaddrP len z (st.rd x') (st.rd i') = some p) : POK P st a E go p := by
  have rx := chkO_RV hI hx
  have ox := chkO_own hI hx
  have ri := chkO_RV hI hii
  generalize st.rd x' = px at h rx ox
  generalize st.rd i' = pi at h ri
  unfold aaddrP at h
  split at h
  · rename_i k o kd j
    have ei := ri.sc_inv
    have ex := rx.own_inv
    split at h <;> try cases h
    rename_i hr
    simp only [inR_def, decide_eq_true_eq] at hr
    refine ⟨.pointer (some ⟨E.μ E.me k, o + iNat j * z, none⟩), yields_of (s := Instr.indexAt t (a.eval x) (a.eval i)) (by simp [execOp, hop]) ?_, .own _ _, ox, rfl⟩
    rw [ex, ei]
    simp [Instr.indexAt, asIntOf, underlying, ht, Instr.sureAddr, hr.1, hr.2, sizeOf, typeInfo, hi, hz, addr_add, iNat_def]
  · cases h

theorem y_istr {t : TypeId} {x i : Operand} {x' i' : Opd} (hop : go.op = .index t x i) (ht : P.underlying t = some .string)
    (hx : chkO x x' = true) (hii : chkO i i' = true) {p : PV} (h : istrP (st.rd x') (st.rd i') = some p) : POK P st a E go p := by
  have rx := chkO_RV hI hx
  have ri := chkO_RV hI hii
  generalize st.rd x' = px at h rx
  generalize st.rd i' = pi at h ri
  unfold istrP at h
  split at h
  · rename_i s kd j
    have ei := ri.sc_inv
    have ex := rx.sc_inv
    split at h <;> try cases h
    rename_i hr
    simp only [inR_def, decide_eq_true_eq] at hr
    have hj : j.toNat < s.size := by omega
    have hg : s[j.toNat]? = some (s.data.toList.getD (iNat j) 0) := by
      rw [iNat_def, getElem?_pos s j.toNat hj]
      congr 1
      show s.data[j.toNat] = _
      rw [List.getD_eq_getElem?_getD, List.getElem?_eq_getElem (by simpa using hj)]
      simp
    refine ⟨_, yields_of (s := Instr.index t (a.eval x) (a.eval i)) (by simp [execOp, hop]) ?_, .pure (.sc _), rfl, rfl⟩
    rw [ex, ei]
    simp [Instr.index, asIntOf, underlying, ht, hr.1, hg]
  · cases h

theorem y_iarr {t e : TypeId} {len z : Nat} {n : Option Nat} {inf : TypeInfo} {x i : Operand} {x' i' : Opd} (hop : go.op = .index t x i) (ht : P.underlying t = some (.array len e)) (hn : isN (shapeOf P e) n = true)
    (hi : P.info? e = some inf) (hz : inf.size = z) (hx : chkO x x' = true) (hii : chkO i i' = true) {p : PV} (h : iarrP len z n (st.rd x') (st.rd i') = some p) : POK P st a E go p := by
  have rx := chkO_RV hI hx
  have ox := chkO_own hI hx
  have ri := chkO_RV hI hii
  generalize st.rd x' = px at h rx ox
  generalize st.rd i' = pi at h ri
  unfold iarrP at h
  split at h
  · rename_i cs kd j
    have ei := ri.sc_inv
    obtain ⟨vs, ex, hv⟩ := rx.agg_inv
    split at h <;> try cases h
    rename_i hr
    simp only [inR_def, decide_eq_true_eq] at hr
    obtain ⟨v, hr', hq⟩ := part_ok hn hv h
    refine ⟨v, yields_of (s := Instr.index t (a.eval x) (a.eval i)) (by simp [execOp, hop]) ?_, hq, part_own (by simpa [ownSub] using ox) h, part_flag h⟩
    rw [ex, ei]
    rw [iNat_def] at hr'
    simp [Instr.index, asIntOf, underlying, ht, hr.1, hr.2, sizeOf, typeInfo, hi, hz, hr']
  · cases h
end
end Go.Fw
end
