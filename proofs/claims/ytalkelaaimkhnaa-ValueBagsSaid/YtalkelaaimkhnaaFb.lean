/- Part 2 of 11 of what the statement leans on. Proved: gatepostlaw02.ValueBags returns true for every input, and the input reads behind the call as it read before; condition: none but the row's own cells. -/
import Derived.Test.YtalkelaaimkhnaaFa
set_option linter.all false
section
/- The limit of the fuelled meaning: equations without fuel. -/
namespace Go.Fw
open Classical
section
variable {α β : Type}

def Mono (F : Nat → Option α) : Prop := ∀ n r, F n = some r → ∀ m, n ≤ m → F m = some r

noncomputable def lim (F : Nat → Option α) : Option α :=
  if h : ∃ r, ∃ n, F n = some r then some (Classical.choose h) else none

theorem lim_of {F : Nat → Option α} (hm : Mono F) {n : Nat} {r : α} (h : F n = some r) : lim F = some r := by
  have hx : ∃ r, ∃ n, F n = some r := ⟨r, n, h⟩
  unfold lim
  rw [dif_pos hx]
  obtain ⟨k, hk⟩ := Classical.choose_spec hx
  have h1 := hm _ _ h (max n k) (by omega)
  have h2 := hm _ _ hk (max n k) (by omega)
  rw [h1] at h2
  exact h2.symm

theorem of_lim {F : Nat → Option α} {r : α} (h : lim F = some r) : ∃ n, F n = some r := by
  unfold lim at h
  split at h
  · rename_i hx
    obtain ⟨k, hk⟩ := Classical.choose_spec hx
    exact ⟨k, by rw [hk]; exact h⟩
  · cases h

theorem lim_iff {F : Nat → Option α} (hm : Mono F) {r : α} : lim F = some r ↔ ∃ n, F n = some r :=
  ⟨of_lim, fun ⟨_, h⟩ => lim_of hm h⟩

theorem lim_const (x : Option α) : lim (fun _ => x) = x := by
  cases x with
  | none =>
    unfold lim
    rw [dif_neg]
    rintro ⟨r, n, h⟩; cases h
  | some r => exact lim_of (F := fun _ => some r) (n := 0) (fun _ _ h _ _ => h) rfl

theorem Mono.const (x : Option α) : Mono (fun _ => x) := fun _ _ h _ _ => h

theorem Mono.bind {A : Nat → Option α} {B : Nat → α → Option β} (ha : Mono A) (hb : ∀ x, Mono fun n => B n x) : Mono fun n => (A n).bind (B n) := by
  intro n r h m hm
  simp only [Option.bind_eq_some_iff] at h ⊢
  obtain ⟨x, hx, hr⟩ := h
  exact ⟨x, ha _ _ hx m hm, hb x _ _ hr m hm⟩

theorem lim_bind {A : Nat → Option α} {B : Nat → α → Option β} (ha : Mono A) (hb : ∀ x, Mono fun n => B n x) :
    lim (fun n => (A n).bind (B n)) = (lim A).bind fun x => lim fun n => B n x := by
  apply Option.ext
  intro r
  constructor
  · intro h
    obtain ⟨n, h⟩ := of_lim h
    simp only [Option.bind_eq_some_iff] at h ⊢
    obtain ⟨x, hx, hr⟩ := h
    exact ⟨x, lim_of ha hx, lim_of (hb x) hr⟩
  · intro h
    simp only [Option.bind_eq_some_iff] at h
    obtain ⟨x, hx, hr⟩ := h
    obtain ⟨n, hn⟩ := of_lim hx
    obtain ⟨k, hk⟩ := of_lim hr
    refine lim_of (Mono.bind ha hb) (n := max n k) ?_
    simp only [Option.bind_eq_some_iff]
    exact ⟨x, ha _ _ hn _ (by omega), hb x _ _ hk _ (by omega)⟩

/-- One tail only: the shift by one. -/
theorem lim_succ {F : Nat → Option α} (hm : Mono F) : lim (fun n => F (n + 1)) = lim F := by
  apply Option.ext
  intro r
  constructor
  · intro h; obtain ⟨n, h⟩ := of_lim h; exact lim_of hm h
  · intro h
    obtain ⟨n, h⟩ := of_lim h
    exact lim_of (F := fun n => F (n + 1)) (fun _ _ h _ hm' => hm _ _ h _ (by omega)) (n := n) (hm _ _ h _ (by omega))
end

section
variable {Ω : Type}

def Orc.le (Γ Γ' : Orc Ω) : Prop := ∀ f a S r, Γ f a S = some r → Γ' f a S = some r

theorem qcall_mono {Γ Γ' : Orc Ω} (h : Orc.le Γ Γ') (st : FS Ω) (d : Option Nat) (f : Nat) (vs : List PV) {r : FS Ω} (hr : st.qcall Γ d f vs = some r) : st.qcall Γ' d f vs = some r := by
  unfold FS.qcall at hr ⊢
  split at hr
  · rename_i hp
    rw [if_pos hp]
    simp only [Option.bind_eq_some_iff] at hr ⊢
    obtain ⟨x, hx, hr⟩ := hr
    exact ⟨x, h _ _ _ _ hx, hr⟩
  · cases hr

theorem xcall_mono {Γ Γ' : Orc Ω} (h : Orc.le Γ Γ') (st : FS Ω) (d : Option Nat) (f : Nat) (vs : List PV) {r : FS Ω} (hr : st.xcall Γ d f vs = some r) : st.xcall Γ' d f vs = some r := by
  unfold FS.xcall at hr ⊢
  rw [Option.bind_eq_some_iff] at hr ⊢
  obtain ⟨x, hx, hr⟩ := hr
  exact ⟨x, h _ _ _ _ hx, hr⟩

theorem rcall_mono {Γ Γ' : Orc Ω} (h : Orc.le Γ Γ') (st : FS Ω) (d : Option Nat) (f : Nat) (vs : List PV) {r : FS Ω} (hr : st.rcall Γ d f vs = some r) : st.rcall Γ' d f vs = some r := by
  unfold FS.rcall at hr ⊢
  rw [Option.bind_eq_some_iff] at hr ⊢
  obtain ⟨x, hx, hr⟩ := hr
  exact ⟨x, h _ _ _ _ hx, hr⟩

theorem stepOp_mono {Γ Γ' : Orc Ω} (h : Orc.le Γ Γ') (o : IOper) (st : FS Ω) {r : FS Ω} (hr : stepOp Γ o st = some r) : stepOp Γ' o st = some r := by
  unfold stepOp at hr ⊢
  cases ho : o.op <;> simp only [ho] at hr ⊢ <;> try exact hr
  · exact qcall_mono h _ _ _ _ hr
  · exact xcall_mono h _ _ _ _ hr
  · split at hr
    · exact qcall_mono h _ _ _ _ hr
    · cases hr
  · split at hr
    · exact xcall_mono h _ _ _ _ hr
    · cases hr
  · exact rcall_mono h _ _ _ _ hr

theorem stepG_mono {Γ Γ' : Orc Ω} (h : Orc.le Γ Γ') (o : IOper) (st : FS Ω) {r : FS Ω} (hr : stepG Γ o st = some r) : stepG Γ' o st = some r := by
  unfold stepG at hr ⊢
  split at hr
  · exact stepOp_mono h o st hr
  · split at hr
    · split at hr
      · rename_i hb; rw [if_pos hb]; exact stepOp_mono h o st hr
      · rename_i hb; rw [if_neg hb]; exact hr
    · exact hr
    · cases hr

theorem runOps_mono {Γ Γ' : Orc Ω} (h : Orc.le Γ Γ') : ∀ (os : List IOper) (st : FS Ω) {r : FS Ω}, runOps Γ os st = some r → runOps Γ' os st = some r
  | [], _, _, hr => hr
  | o :: os, st, r, hr => by
    simp only [runOps, Option.bind_eq_some_iff] at hr ⊢
    obtain ⟨s, hs, hr⟩ := hr
    exact ⟨s, stepG_mono h o st hs, runOps_mono h os s hr⟩

theorem runReg_mono {Γ Γ' : Orc Ω} (h : Orc.le Γ Γ') (os : List IOper) (k : List Nat) (st : FS Ω) {r : FS Ω} (hr : runReg Γ os k st = some r) : runReg Γ' os k st = some r := by
  simp only [runReg, Option.map_eq_some_iff] at hr ⊢
  obtain ⟨x, hx, he⟩ := hr
  exact ⟨x, runOps_mono h os st hx, he⟩

theorem loopN_mono {b b' : FS Ω → Option (IExit × FS Ω)} (hb : ∀ s r, b s = some r → b' s = some r) (dead boxes : List Nat) :
    ∀ (n : Nat) (st : FS Ω) {r}, loopN b dead boxes n st = some r → ∀ m, n ≤ m → loopN b' dead boxes m st = some r
  | 0, _, _, h, _, _ => by cases h
  | n + 1, st, r, h, m, hm => by
    obtain ⟨m, rfl⟩ : ∃ k, m = k + 1 := ⟨m - 1, by omega⟩
    simp only [loopN] at h ⊢
    split at h
    · cases h
    · cases hx : b ‹FS Ω› with
      | none => simp [hx] at h
      | some p =>
        obtain ⟨e, s⟩ := p
        rw [hb _ _ hx]
        simp only [hx] at h
        cases e with
        | normal => exact loopN_mono hb dead boxes n s h m (by omega)
        | exit i => exact h
        | ret => exact h

theorem den_mono {Γ Γ' : Orc Ω} (h : Orc.le Γ Γ') {N N' : Nat} (hN : N ≤ N') : ∀ (c : ICode) (st : FS Ω) {r}, den Γ N c st = some r → den Γ' N' c st = some r
  | .skip, _, _, hr => hr
  | .reg os k, st, r, hr => by
    simp only [den, Option.map_eq_some_iff] at hr ⊢
    obtain ⟨x, hx, he⟩ := hr
    exact ⟨x, runReg_mono h os k st hx, he⟩
  | .seq a b, st, r, hr => by
    simp only [den] at hr ⊢
    cases hx : den Γ N a st with
    | none => simp [hx] at hr
    | some p =>
      obtain ⟨e, s⟩ := p
      rw [den_mono h hN a st hx]
      simp only [hx] at hr
      cases e with
      | normal => exact den_mono h hN b s hr
      | exit i => exact hr
      | ret => exact hr
  | .cond c a b, st, r, hr => by
    simp only [den] at hr ⊢
    split at hr
    · exact den_mono h hN a st hr
    · exact den_mono h hN b st hr
    · cases hr
  | .block id c, st, r, hr => by
    simp only [den] at hr ⊢
    cases hx : den Γ N c st with
    | none => simp [hx] at hr
    | some p => rw [den_mono h hN c st hx]; rw [hx] at hr; exact hr
  | .loop dead boxes c, st, r, hr => by
    simp only [den] at hr ⊢
    exact loopN_mono (fun s r hs => den_mono h hN c s hs) dead boxes N st hr N' hN
  | .exit _, _, _, hr => hr
  | .ret, _, _, hr => hr
  | .exitB .., _, _, hr => hr
  | .retB .., _, _, hr => hr

theorem interp_succ (T : Nat → Option (Ent Ω)) (n f : Nat) (args : List PV) (S : List (Fr Ω)) :
    interp T (n + 1) f args S = match T f with
      | none => none
      | some (.prim p) => p args S
      | some (.fn fn) =>
        match den (interp T n) n fn.body (initFS args S) with
        | some (.normal, st) | some (.ret, st) => retOf fn.rets fn.gives st
        | _ => none := rfl

theorem interp_le (T : Nat → Option (Ent Ω)) : ∀ n, Orc.le (interp T n) (interp T (n + 1))
  | 0 => fun f a S r h => by cases h
  | n + 1 => fun f a S r h => by
    rw [interp_succ] at h ⊢
    split at h
    · cases h
    · exact h
    · rename_i fn hf
      have hd := fun {r} (hr : den (interp T n) n fn.body (initFS a S) = some r) => den_mono (interp_le T n) (Nat.le_succ n) fn.body _ hr
      cases hx : den (interp T n) n fn.body (initFS a S) with
      | none => simp [hx] at h
      | some p => rw [hd hx]; simp only [hx] at h; exact h

theorem interp_mono (T : Nat → Option (Ent Ω)) {n m : Nat} (h : n ≤ m) : Orc.le (interp T n) (interp T m) := by
  induction m with
  | zero => obtain rfl : n = 0 := by omega
            exact fun _ _ _ _ h => h
  | succ m ih =>
    by_cases e : n = m + 1
    · subst e; exact fun _ _ _ _ h => h
    · exact fun f a S r hr => interp_le T m f a S r (ih (by omega) f a S r hr)

/-- The meaning of a call. -/
noncomputable def G (T : Nat → Option (Ent Ω)) : Orc Ω := fun f args S => lim fun n => interp T n f args S
/-- The meaning of code. -/
noncomputable def denL (T : Nat → Option (Ent Ω)) (c : ICode) (st : FS Ω) : Option (IExit × FS Ω) := lim fun n => den (interp T n) n c st

theorem interp_Mono (T : Nat → Option (Ent Ω)) (f : Nat) (a : List PV) (S : List (Fr Ω)) : Mono fun n => interp T n f a S :=
  fun _ _ h _ hm => interp_mono T hm _ _ _ _ h
theorem den_Mono (T : Nat → Option (Ent Ω)) (c : ICode) (st : FS Ω) : Mono fun n => den (interp T n) n c st :=
  fun _ _ h _ hm => den_mono (interp_mono T hm) hm c st h

variable (T : Nat → Option (Ent Ω))

theorem G_of {f : Nat} {args : List PV} {S : List (Fr Ω)} {n : Nat} {r : Ret Ω} (h : interp T n f args S = some r) : G T f args S = some r :=
  lim_of (interp_Mono T f args S) h

theorem of_G {f : Nat} {args : List PV} {S : List (Fr Ω)} {r : Ret Ω} (h : G T f args S = some r) : ∃ n, interp T n f args S = some r := of_lim h

theorem interp_le_G (n : Nat) : Orc.le (interp T n) (G T) := fun _ _ _ _ h => G_of T h

theorem ex_qcall {st : FS Ω} {d : Option Nat} {f : Nat} {vs : List PV} {r : FS Ω} (h : st.qcall (G T) d f vs = some r) : ∃ n, st.qcall (interp T n) d f vs = some r := by
  unfold FS.qcall at h ⊢
  split at h
  · rename_i hp
    simp only [if_pos hp, Option.bind_eq_some_iff] at h ⊢
    obtain ⟨x, hx, hr⟩ := h
    obtain ⟨n, hn⟩ := of_G T hx
    exact ⟨n, x, hn, hr⟩
  · cases h

theorem ex_xcall {st : FS Ω} {d : Option Nat} {f : Nat} {vs : List PV} {r : FS Ω} (h : st.xcall (G T) d f vs = some r) : ∃ n, st.xcall (interp T n) d f vs = some r := by
  unfold FS.xcall at h ⊢
  rw [Option.bind_eq_some_iff] at h
  obtain ⟨x, hx, hr⟩ := h
  obtain ⟨n, hn⟩ := of_G T hx
  exact ⟨n, by rw [Option.bind_eq_some_iff]; exact ⟨x, hn, hr⟩⟩

theorem ex_rcall {st : FS Ω} {d : Option Nat} {f : Nat} {vs : List PV} {r : FS Ω} (h : st.rcall (G T) d f vs = some r) : ∃ n, st.rcall (interp T n) d f vs = some r := by
  unfold FS.rcall at h ⊢
  rw [Option.bind_eq_some_iff] at h
  obtain ⟨x, hx, hr⟩ := h
  obtain ⟨n, hn⟩ := of_G T hx
  exact ⟨n, by rw [Option.bind_eq_some_iff]; exact ⟨x, hn, hr⟩⟩

theorem ex_stepOp {o : IOper} {st r : FS Ω} (h : stepOp (G T) o st = some r) : ∃ n, stepOp (interp T n) o st = some r := by
  unfold stepOp at h ⊢
  cases ho : o.op <;> simp only [ho] at h ⊢ <;> try exact ⟨0, h⟩
  · exact ex_qcall T h
  · exact ex_xcall T h
  · split at h
    · exact ex_qcall T h
    · cases h
  · split at h
    · exact ex_xcall T h
    · cases h
  · exact ex_rcall T h

theorem ex_stepG {o : IOper} {st r : FS Ω} (h : stepG (G T) o st = some r) : ∃ n, stepG (interp T n) o st = some r := by
  have key : ∀ r, stepOp (G T) o st = some r → ∃ n, stepOp (interp T n) o st = some r := fun r h => ex_stepOp T h
  unfold stepG at h ⊢
  split at h
  · exact key _ h
  · split at h
    · split at h
      · rename_i hb; obtain ⟨n, hn⟩ := key _ h; exact ⟨n, by rw [if_pos hb]; exact hn⟩
      · rename_i hb; exact ⟨0, by rw [if_neg hb]; exact h⟩
    · exact ⟨0, h⟩
    · cases h

theorem ex_runOps : ∀ {os : List IOper} {st r : FS Ω}, runOps (G T) os st = some r → ∃ n, runOps (interp T n) os st = some r
  | [], _, _, h => ⟨0, h⟩
  | o :: os, st, r, h => by
    simp only [runOps, Option.bind_eq_some_iff] at h ⊢
    obtain ⟨s, hs, hr⟩ := h
    obtain ⟨n, hn⟩ := ex_stepG T hs
    obtain ⟨k, hk⟩ := ex_runOps hr
    exact ⟨max n k, s, stepG_mono (interp_mono T (by omega)) o st hn, runOps_mono (interp_mono T (by omega)) os s hk⟩

theorem denL_of {c : ICode} {st : FS Ω} {n : Nat} {r} (h : den (interp T n) n c st = some r) : denL T c st = some r := lim_of (den_Mono T c st) h
theorem of_denL {c : ICode} {st : FS Ω} {r} (h : denL T c st = some r) : ∃ n, den (interp T n) n c st = some r := of_lim h

theorem denL_skip (st : FS Ω) : denL T .skip st = some (.normal, st) := denL_of T (n := 0) rfl
theorem denL_exit (id : Nat) (st : FS Ω) : denL T (.exit id) st = some (.exit id, st) := denL_of T (n := 0) rfl
theorem denL_exitB (keep boxes : List Nat) (id : Nat) (st : FS Ω) : denL T (.exitB keep boxes id) st = (reset keep boxes st).map (.exit id, ·) := by
  unfold denL
  exact lim_const _
theorem denL_retB (keep boxes : List Nat) (st : FS Ω) : denL T (.retB keep boxes) st = (reset keep boxes st).map (.ret, ·) := by
  unfold denL
  exact lim_const _
theorem denL_ret (st : FS Ω) : denL T .ret st = some (.ret, st) := denL_of T (n := 0) rfl

theorem denL_reg (os : List IOper) (k : List Nat) (st : FS Ω) : denL T (.reg os k) st = (runReg (G T) os k st).map (.normal, ·) := by
  apply Option.ext
  intro r
  constructor
  · intro h
    obtain ⟨n, h⟩ := of_denL T h
    simp only [den, Option.map_eq_some_iff] at h ⊢
    obtain ⟨x, hx, he⟩ := h
    exact ⟨x, runReg_mono (interp_le_G T n) os k st hx, he⟩
  · intro h
    simp only [Option.map_eq_some_iff, runReg] at h
    obtain ⟨x, ⟨y, hy, rfl⟩, rfl⟩ := h
    obtain ⟨n, hn⟩ := ex_runOps T hy
    exact denL_of T (n := n) (by simp [den, runReg, hn])

/-- Behind a part of the code. -/
def andThen (r : Option (IExit × FS Ω)) (k : FS Ω → Option (IExit × FS Ω)) : Option (IExit × FS Ω) :=
  match r with
  | some (.normal, s) => k s
  | r => r

theorem andThen_normal (s : FS Ω) (k : FS Ω → Option (IExit × FS Ω)) : andThen (some (.normal, s)) k = k s := rfl
theorem andThen_exit (i : Nat) (s : FS Ω) (k : FS Ω → Option (IExit × FS Ω)) : andThen (some (.exit i, s)) k = some (.exit i, s) := rfl
theorem andThen_ret (s : FS Ω) (k : FS Ω → Option (IExit × FS Ω)) : andThen (some (.ret, s)) k = some (.ret, s) := rfl
theorem andThen_none (k : FS Ω → Option (IExit × FS Ω)) : andThen none k = none := rfl

theorem denL_seq (a b : ICode) (st : FS Ω) : denL T (.seq a b) st = andThen (denL T a st) (denL T b) := by
  apply Option.ext
  intro r
  constructor
  · intro h
    obtain ⟨n, h⟩ := of_denL T h
    simp only [den] at h
    cases hx : den (interp T n) n a st with
    | none => simp [hx] at h
    | some p =>
      obtain ⟨e, s⟩ := p
      rw [denL_of T hx]
      simp only [hx] at h
      cases e with
      | normal => exact denL_of T h
      | exit i => exact h
      | ret => exact h
  · intro h
    cases hx : denL T a st with
    | none => rw [hx] at h; cases h
    | some p =>
      obtain ⟨e, s⟩ := p
      rw [hx] at h
      obtain ⟨n, hn⟩ := of_denL T hx
      cases e with
      | normal =>
        obtain ⟨k, hk⟩ := of_denL T h
        refine denL_of T (n := max n k) ?_
        simp only [den]
        rw [show den (interp T (max n k)) (max n k) a st = _ from den_Mono T a st _ _ hn _ (Nat.le_max_left n k)]
        exact den_Mono T b s _ _ hk _ (Nat.le_max_right n k)
      | exit i => exact denL_of T (n := n) (by simp only [den, hn]; exact h)
      | ret => exact denL_of T (n := n) (by simp only [den, hn]; exact h)

theorem denL_cond (c : Opd) (a b : ICode) (st : FS Ω) : denL T (.cond c a b) st = match st.rd c with
    | .sc (.bool true) => denL T a st
    | .sc (.bool false) => denL T b st
    | _ => none := by
  unfold denL
  simp only [den]
  generalize st.rd c = v
  split
  · rfl
  · rfl
  · rename_i h1 h2
    refine (lim_const none).trans ?_
    first
      | rfl
      | (split
         · exact absurd rfl h1
         · exact absurd rfl h2
         · rfl)

theorem denL_cond_bool {c : Opd} {a b : ICode} {st : FS Ω} {t : Bool} (h : st.rd c = .sc (.bool t)) :
    denL T (.cond c a b) st = if t = true then denL T a st else denL T b st := by
  rw [denL_cond, h]; cases t <;> rfl

def unblock (id : Nat) (r : Option (IExit × FS Ω)) : Option (IExit × FS Ω) :=
  match r with
  | some (.exit i, s) => if Nat.beq i id then some (.normal, s) else some (.exit i, s)
  | r => r

theorem denL_block (id : Nat) (c : ICode) (st : FS Ω) : denL T (.block id c) st = unblock id (denL T c st) := by
  apply Option.ext
  intro r
  constructor
  · intro h
    obtain ⟨n, h⟩ := of_denL T h
    simp only [den] at h
    cases hx : den (interp T n) n c st with
    | none => simp [hx] at h
    | some p => rw [denL_of T hx]; rw [hx] at h; exact h
  · intro h
    cases hx : denL T c st with
    | none => rw [hx] at h; cases h
    | some p =>
      rw [hx] at h
      obtain ⟨n, hn⟩ := of_denL T hx
      exact denL_of T (n := n) (by simp only [den, hn]; exact h)

theorem denL_loop (dead boxes : List Nat) (c : ICode) (st : FS Ω) :
    denL T (.loop dead boxes c) st = (reset dead boxes st).bind fun s => andThen (denL T c s) (denL T (.loop dead boxes c)) := by
  apply Option.ext
  intro r
  constructor
  · intro h
    obtain ⟨n, h⟩ := of_denL T h
    simp only [den] at h
    cases n with
    | zero => cases h
    | succ n =>
      simp only [loopN] at h
      cases hr : reset dead boxes st with
      | none => simp [hr] at h
      | some s =>
        simp only [hr] at h
        simp only [Option.bind_some]
        cases hx : den (interp T (n + 1)) (n + 1) c s with
        | none => simp [hx] at h
        | some p =>
          obtain ⟨e, s'⟩ := p
          rw [denL_of T hx]
          simp only [hx] at h
          cases e with
          | normal =>
            refine denL_of T (n := n + 1) ?_
            simp only [den]
            exact loopN_mono (fun _ _ h => h) dead boxes n s' h (n + 1) (by omega)
          | exit i => exact h
          | ret => exact h
  · intro h
    cases hr : reset dead boxes st with
    | none => rw [hr] at h; cases h
    | some s =>
      rw [hr] at h
      simp only [Option.bind_some] at h
      cases hx : denL T c s with
      | none => rw [hx] at h; cases h
      | some p =>
        obtain ⟨e, s'⟩ := p
        rw [hx] at h
        obtain ⟨n, hn⟩ := of_denL T hx
        cases e with
        | normal =>
          obtain ⟨k, hk⟩ := of_denL T h
          refine denL_of T (n := max n k + 1) ?_
          simp only [den, loopN, hr]
          rw [show den (interp T (max n k + 1)) (max n k + 1) c s = _ from den_Mono T c s _ _ hn (max n k + 1) (by omega)]
          simp only [den] at hk
          exact loopN_mono (fun s r hs => den_Mono T c s _ _ hs _ (by omega)) dead boxes k s' hk _ (by omega)
        | exit i =>
          refine denL_of T (n := n + 1) ?_
          simp only [den, loopN, hr]
          rw [show den (interp T (n + 1)) (n + 1) c s = _ from den_Mono T c s _ _ hn (n + 1) (by omega)]
          exact h
        | ret =>
          refine denL_of T (n := n + 1) ?_
          simp only [den, loopN, hr]
          rw [show den (interp T (n + 1)) (n + 1) c s = _ from den_Mono T c s _ _ hn (n + 1) (by omega)]
          exact h

def finish (rets : List (Nat × Option (Option Nat))) (gives : Bool) (r : Option (IExit × FS Ω)) : Option (Ret Ω) :=
  match r with
  | some (.normal, st) | some (.ret, st) => retOf rets gives st
  | _ => none

/-- A function's meaning is its body's. -/
theorem G_fn {f : Nat} {fn : IFunc} (hf : T f = some (.fn fn)) (args : List PV) (S : List (Fr Ω)) :
    G T f args S = finish fn.rets fn.gives (denL T fn.body (initFS args S)) := by
  apply Option.ext
  intro r
  constructor
  · intro h
    obtain ⟨n, h⟩ := of_G T h
    cases n with
    | zero => cases h
    | succ n =>
      simp only [interp, hf] at h
      cases hx : den (interp T n) n fn.body (initFS args S) with
      | none => simp [hx] at h
      | some p => rw [denL_of T hx]; simp only [hx] at h; exact h
  · intro h
    cases hx : denL T fn.body (initFS args S) with
    | none => rw [hx] at h; cases h
    | some p =>
      rw [hx] at h
      obtain ⟨n, hn⟩ := of_denL T hx
      exact G_of T (n := n + 1) (by simp only [interp, hf, hn]; exact h)

theorem G_prim {f : Nat} {p : List PV → List (Fr Ω) → Option (Ret Ω)} (hf : T f = some (.prim p)) (args : List PV) (S : List (Fr Ω)) :
    G T f args S = p args S := by
  apply Option.ext
  intro r
  constructor
  · intro h
    obtain ⟨n, h⟩ := of_G T h
    cases n with
    | zero => cases h
    | succ n => simpa only [interp, hf] using h
  · intro h
    exact G_of T (n := 1) (by simpa only [interp, hf] using h)
end
attribute [irreducible] G denL
end Go.Fw
end
