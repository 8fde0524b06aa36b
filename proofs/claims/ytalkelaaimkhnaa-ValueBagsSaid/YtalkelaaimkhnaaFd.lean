/- Part 4 of 11 of what the statement leans on. Proved: gatepostlaw02.ValueBags returns true for every input, and the input reads behind the call as it read before; condition: none but the row's own cells. -/
import Derived.Test.YtalkelaaimkhnaaFc
set_option linter.all false
section
/- Evaluation, split by split. -/
namespace Go.Fw
variable {Ω : Type} {T : Nat → Option (Ent Ω)}
theorem gate_mt (t : Bool) (x y : Option (FS Ω)) : gate (.sc (.bool t)) true x y = (match t with | true => x | false => y) := by cases t <;> rfl
theorem gate_mf (t : Bool) (x y : Option (FS Ω)) : gate (.sc (.bool t)) false x y = (match t with | true => y | false => x) := by cases t <;> rfl
theorem gate_nt (t : Bool) (x y : Option (FS Ω)) : gate (.sc (.bool !t)) true x y = gate (.sc (.bool t)) false x y := by cases t <;> rfl
theorem gate_nf (t : Bool) (x y : Option (FS Ω)) : gate (.sc (.bool !t)) false x y = gate (.sc (.bool t)) true x y := by cases t <;> rfl
theorem condL_m (t : Bool) (a b : ICode) (st : FS Ω) : condL T (.sc (.bool t)) a b st = (match t with | true => denL T a st | false => denL T b st) := by
  cases t <;> simp [condL_bool]
theorem condL_n (t : Bool) (a b : ICode) (st : FS Ω) : condL T (.sc (.bool !t)) a b st = condL T (.sc (.bool t)) b a st := by
  cases t <;> simp [condL_bool]
theorem condL_t (a b : ICode) (st : FS Ω) : condL T (.sc (.bool true)) a b st = denL T a st := by simp [condL_bool]
theorem condL_f (a b : ICode) (st : FS Ω) : condL T (.sc (.bool false)) a b st = denL T b st := by simp [condL_bool]
theorem reset_def (keep boxes : List Nat) (sl : List (Nat × PV)) (L : Fr Ω) (S : List (Fr Ω)) (b : Bool) :
    reset keep boxes (⟨sl, L, S, b⟩ : FS Ω) = if ownSubS boxes (keepS keep sl) = true then some ⟨keepS keep sl, keepL boxes L, S, b⟩ else none := rfl
/-- An index that is a natural number. -/
abbrev PV.nat (n : Nat) : PV := .sc (.int .i64 (n : Int))
theorem nat1 : PV.nat 1 = PV.int 1 := rfl
theorem iEq_self (a : Int) : iEq a a = true := by rw [iEq_def]; simp
theorem sEq_self (a : ByteArray) : sEq a a = true := by rw [sEq_def]; simp
theorem iLt_self (a : Int) : iLt a a = false := by rw [iLt_def]; simp
theorem iLe_self (a : Int) : iLe a a = true := by rw [iLe_def]; simp
attribute [go_sem] iEq_self sEq_self iLt_self iLe_self
theorem nat0 : PV.nat 0 = PV.int 0 := rfl
theorem iNat_nat (n : Nat) : iNat (n : Int) = n := by rw [iNat_def]; simp
theorem iNat_0 : iNat 0 = 0 := by rw [iNat_def]; rfl
theorem inR_nat (n m : Nat) : inR (n : Int) m = decide (n < m) := by rw [inR_def]; simp
theorem inR_0 (m : Nat) : inR 0 m = decide (0 < m) := by rw [inR_def]; simp
theorem inR1_nat (n m : Nat) : inR1 (n : Int) m = decide (n ≤ m) := by rw [inR1_def]; simp
theorem inR1_0 (m : Nat) : inR1 0 m = true := by rw [inR1_def]; simp
theorem iLt_nat (n m : Nat) : iLt (n : Int) (m : Int) = decide (n < m) := by rw [iLt_def]; simp
theorem iLe_nat (n m : Nat) : iLe (n : Int) (m : Int) = decide (n ≤ m) := by rw [iLe_def]; simp
theorem iEq_nat (n m : Nat) : iEq (n : Int) (m : Int) = decide (n = m) := by rw [iEq_def]; simp; omega
theorem wrap64 {n : Int} (h : -9223372036854775808 ≤ n ∧ n ≤ 9223372036854775807) : wrapI .i64 n = n := by
  rw [wrapI_def]
  unfold IntKind.wrap
  simp [IntKind.bits, IntKind.signed]
  omega
theorem wrap64' {n : Nat} (h : n < 4611686018427387904) : wrapI .i64 (n : Int) = (n : Int) := wrap64 (by omega)
theorem iLt_0nat (n : Nat) : iLt 0 (n : Int) = decide (0 < n) := by rw [iLt_def]; simp
theorem iEq_nat0 (n : Nat) : iEq (n : Int) 0 = decide (n = 0) := by rw [iEq_def]; simp
theorem wrap_pred (n : Nat) (h : n < 4611686018427387904) : wrapI .i64 (((n + 1 : Nat) : Int) - 1) = (n : Int) := by rw [show ((n + 1 : Nat) : Int) - 1 = n by omega, wrap64' h]
theorem nInt_nat (n : Nat) : nInt n = (n : Int) := by rw [nInt_def]
theorem wrap_1 : wrapI .i64 (0 + 1) = 1 := wrap64 (by omega)
theorem wrap_1' : wrapI .i64 1 = 1 := wrap64 (by omega)
attribute [go_sem] wrap_1 wrap_1'
theorem wrap_succ {n : Nat} (h : n < 4611686018427387904) : wrapI .i64 ((n : Int) + 1) = ((n + 1 : Nat) : Int) := by
  rw [wrap64 (by omega)]; omega
theorem fr_get (S : List (Fr Ω)) (L : Fr Ω) : (S ++ [L])[S.length]? = some L := by simp
theorem fr_len (S : List (Fr Ω)) (L : Fr Ω) : Nat.beq (S ++ [L]).length (S.length + 1) = true := by rw [Nat.beq_eq]; simp
theorem fr_take (S : List (Fr Ω)) (L : Fr Ω) : List.take S.length (S ++ [L]) = S := by simp
theorem fr_len2 (S : List (Fr Ω)) (L : Fr Ω) : ((S ++ [L]).length == S.length + 1) = true := by simp
attribute [go_sem] fr_len2
theorem nbeq_eq (a b : Nat) : Nat.beq a b = (a == b) := by rw [Bool.eq_iff_iff, beq_iff_eq, Nat.beq_eq]
attribute [go_sem] nbeq_eq beq_self_eq_true Bool.or_false Bool.false_or Bool.or_true Bool.true_or
attribute [go_sem] fr_get fr_len fr_take Bool.and_self Bool.and_true Bool.true_and
theorem nLe_yes {n : Nat} (h : n ≤ 70368744177664) : nLe n maxBytes = true := by rw [nLe_def]; simp [maxBytes, h]
theorem retOf_box (t : Nat) (n : Option Nat) (g : Bool) (st : FS Ω) : retOf [(t, some n)] g st = (st.loadV n (st.rd (.t t))).bind fun v => answer st (canon v) := by
  unfold retOf retVal answer
  cases h : st.loadV n (st.rd (.t t)) with
  | none => simp [h]
  | some v => simp [h]; rfl
theorem retOf_box2 (t u : Nat) (n : Option Nat) (g : Bool) (st : FS Ω) : retOf [(t, some n), (u, none)] g st = (st.loadV n (st.rd (.t t))).bind fun v => answer st (.tup [canon v, canon (st.rd (.t u))]) := by
  unfold retOf retVal answer
  cases h : st.loadV n (st.rd (.t t)) with
  | none => simp [h]
  | some v => simp [h]; rfl
theorem retOf_two (t u : Nat) (g : Bool) (st : FS Ω) : retOf [(t, none), (u, none)] g st = answer st (.tup [canon (st.rd (.t t)), canon (st.rd (.t u))]) := by
  unfold retOf retVal answer
  simp
  rfl
theorem answer_agg (cs : List PV) (st : FS Ω) (h : ownsIn cs = none) (h2 : pfrs cs = true) : answer st (.agg cs) = some (.agg cs, none, st.S) := by
  simp [answer, ownIn, pfr, h, h2]
theorem answer_tup (cs : List PV) (st : FS Ω) (h : ownsIn cs = none) (h2 : pfrs cs = true) : answer st (.tup cs) = some (.tup cs, none, st.S) := by
  simp [answer, ownIn, pfr, h, h2]
theorem ownIn_sc (v : Value) : ownIn (.sc v) = none := rfl
theorem ownIn_sl (f : Fl) (z : Nat) (es : List (List PV)) : ownIn (.sl f z es) = none := rfl
theorem ownIn_clo (f : Nat) (a b : List PV) : ownIn (.clo f a b) = none := rfl
theorem ownIn_agg (cs : List PV) : ownIn (.agg cs) = ownsIn cs := rfl
theorem ownIn_tup (cs : List PV) : ownIn (.tup cs) = ownsIn cs := rfl
theorem ownsIn_nil : ownsIn [] = none := rfl
def orO : Option Nat → Option Nat → Option Nat
  | some k, _ => some k
  | none, x => x
theorem orO_none (x : Option Nat) : orO none x = x := rfl
theorem ownsIn_cons (p : PV) (ps : List PV) : ownsIn (p :: ps) = orO (ownIn p) (ownsIn ps) := by
  simp only [ownsIn]; cases ownIn p <;> rfl
theorem sameK_i64 : sameK .i64 .i64 = true := rfl
theorem sameK_u8 : sameK .u8 .u8 = true := rfl
attribute [go_sem] orO_none sameK_i64 sameK_u8
theorem pfr_sc (v : Value) : pfr (.sc v) = true := rfl
theorem pfr_sl (f : Fl) (z : Nat) (es : List (List PV)) : pfr (.sl f z es) = true := rfl
theorem pfr_clo (f : Nat) (a b : List PV) : pfr (.clo f a b) = (pfs a && pfs b) := rfl
theorem pfr_agg (cs : List PV) : pfr (.agg cs) = pfrs cs := rfl
theorem pfr_tup (cs : List PV) : pfr (.tup cs) = pfrs cs := rfl
theorem pfrs_nil : pfrs [] = true := rfl
theorem pfrs_cons (p : PV) (ps : List PV) : pfrs (p :: ps) = (pfr p && pfrs ps) := rfl
attribute [go_sem] retOf_box retOf_box2 retOf_two answer_agg answer_tup ownIn_sc ownIn_sl ownIn_clo ownIn_agg ownIn_tup ownsIn_nil ownsIn_cons pfr_sc pfr_sl pfr_clo pfr_agg pfr_tup pfrs_nil pfrs_cons
attribute [go_sem] iEq_nat iLt_0nat iEq_nat0
attribute [go_sem] gate_nt gate_nf condL_n condL_t condL_f Bool.not_true Bool.not_false Bool.false_eq_true if_true if_false reset_def iNat_nat iNat_0 nInt_nat iLt_nat iLe_nat inR_nat inR_0 inR1_nat inR1_0 decide_true decide_false Nat.lt_irrefl ite_self
end Go.Fw
end
