/- Part 3 of 11 of what the statement leans on. Proved: gatepostlaw02.ValueBags returns true for every input, and the input reads behind the call as it read before; condition: none but the row's own cells. -/
import Derived.Test.YtalkelaaimkhnaaFb
import Derived.Attr
set_option linter.all false
section
/- Rewriting rules that run the annotated code: one an operation. -/
namespace Go.Fw
section
variable {Ω : Type} {Γ : Orc Ω} {T : Nat → Option (Ent Ω)} {d : Option Nat} {st : FS Ω}

-- slots
@[go_sem] theorem getS_nil (k : Nat) : getS [] k = .undef := rfl
/-- One of two, by a truth. -/
def selB {α : Type} (b : Bool) (x y : α) : α :=
  match b with
  | true => x
  | false => y
@[go_sem] theorem selB_true {α : Type} (x y : α) : selB true x y = x := rfl
@[go_sem] theorem selB_false {α : Type} (x y : α) : selB false x y = y := rfl
theorem cg_selB {α : Type} {b b' : Bool} {x y : α} (h : b = b') : selB b x y = selB b' x y := by rw [h]
theorem beq_of {k j : Nat} : (k == j) = Nat.beq k j := by rw [Bool.eq_iff_iff, beq_iff_eq, Nat.beq_eq]
@[go_sem] theorem getS_cons (j k : Nat) (u : PV) (r : List (Nat × PV)) : getS ((j, u) :: r) k = selB (k == j) u (getS r k) := by
  show (match (if Nat.beq k j = true then some u else look r k) with | some v => v | none => .undef) = _
  rw [beq_of]; cases Nat.beq k j <;> rfl
@[go_sem] theorem ins_nil {α : Type} (k : Nat) (v : α) : ins [] k v = [(k, v)] := rfl
@[go_sem] theorem ins_cons {α : Type} (j k : Nat) (u v : α) (r : List (Nat × α)) :
    ins ((j, u) :: r) k v = selB (k == j) ((k, v) :: r) (selB (k + 1 - j == 0) ((k, v) :: (j, u) :: r) ((j, u) :: ins r k v)) := by
  show (if Nat.beq k j = true then _ else if Nat.blt k j = true then _ else _) = _
  have e : Nat.blt k j = (k + 1 - j == 0) := by
    by_cases h : k < j
    · have h2 : k + 1 - j = 0 := by omega
      rw [h2]; simpa [Nat.blt_eq] using h
    · have h2 : ¬ k + 1 - j = 0 := by omega
      rw [Bool.eq_iff_iff, Nat.blt_eq, beq_iff_eq]; exact ⟨fun h' => absurd h' h, fun h' => absurd h' h2⟩
  rw [beq_of, e]; cases Nat.beq k j
  · cases (k + 1 - j == 0) <;> rfl
  · rfl
@[go_sem] theorem look_nil {α : Type} (k : Nat) : look ([] : List (Nat × α)) k = none := rfl
@[go_sem] theorem look_cons {α : Type} (j k : Nat) (u : α) (r : List (Nat × α)) : look ((j, u) :: r) k = selB (k == j) (some u) (look r k) := by
  show (if Nat.beq k j = true then _ else _) = _
  rw [beq_of]; cases Nat.beq k j <;> rfl
@[go_sem] theorem keepS_nil (s : List (Nat × PV)) : keepS [] s = [] := rfl
@[go_sem] theorem keepS_cons (k : Nat) (ks : List Nat) (s : List (Nat × PV)) : keepS (k :: ks) s = (k, strip (getS s k)) :: keepS ks s := rfl
@[go_sem] theorem keepL_nil (s : Fr Ω) : keepL [] s = [] := rfl
@[go_sem] theorem keepL_cons (k : Nat) (ks : List Nat) (s : Fr Ω) : keepL (k :: ks) s = match look s k with
    | some c => (k, c) :: keepL ks s
    | none => keepL ks s := rfl
@[go_sem] theorem rd_t (sl : List (Nat × PV)) (L : Fr Ω) (S : List (Fr Ω)) (b : Bool) (n : Nat) : (⟨sl, L, S, b⟩ : FS Ω).rd (.t n) = getS sl n := rfl
@[go_sem] theorem rd_c (p : PV) : st.rd (.c p) = p := rfl
@[go_sem] theorem rd_f (f : Nat) : st.rd (.f f) = .clo f [] [] := rfl
@[go_sem] theorem put_some (sl : List (Nat × PV)) (L : Fr Ω) (S : List (Fr Ω)) (b : Bool) (d : Nat) (v : PV) : (⟨sl, L, S, b⟩ : FS Ω).put (some d) v = ⟨ins sl d v, L, S, b⟩ := rfl
@[go_sem] theorem put_none (v : PV) : st.put none v = st := rfl
attribute [go_sem] Nat.reduceBEq Nat.reduceEqDiff Nat.reduceLT Nat.reduceAdd Nat.reduceMul Nat.reduceSub Nat.reduceLeDiff

-- values
@[go_sem] theorem strip_sc (v : Value) : strip (.sc v) = .sc v := rfl
@[go_sem] theorem strip_agg (v : List PV) : strip (.agg v) = .agg v := rfl
@[go_sem] theorem strip_tup (v : List PV) : strip (.tup v) = .tup v := rfl
@[go_sem] theorem strip_own (k o : Nat) : strip (.own k o) = .own k o := rfl
@[go_sem] theorem strip_ptr (d k o : Nat) : strip (.ptr d k o) = .ptr d k o := rfl
@[go_sem] theorem strip_elp (z : Nat) (es : List (List PV)) (i o : Nat) : strip (.elp z es i o) = .elp z es i o := rfl
@[go_sem] theorem strip_clo (f : Nat) (a b : List PV) : strip (.clo f a b) = .clo f a b := rfl
@[go_sem] theorem strip_undef : strip .undef = .undef := rfl
@[go_sem] theorem strip_no (z : Nat) (es : List (List PV)) : strip (.sl .no z es) = .sl .no z es := rfl
@[go_sem] theorem strip_nil (z : Nat) (es : List (List PV)) : strip (.sl .nil z es) = .sl .nil z es := rfl
@[go_sem] theorem strip_ow (z : Nat) (es : List (List PV)) : strip (.sl .own z es) = .sl .own z es := rfl
@[go_sem] theorem strip_al (s : Src) (z : Nat) (es : List (List PV)) : strip (.sl (.al s) z es) = .sl .no z es := rfl
@[go_sem] theorem dem_sc (v : Value) : dem (.sc v) = .sc v := rfl
@[go_sem] theorem dem_agg (v : List PV) : dem (.agg v) = .agg v := rfl
@[go_sem] theorem dem_own (k o : Nat) : dem (.own k o) = .own k o := rfl
@[go_sem] theorem dem_ptr (d k o : Nat) : dem (.ptr d k o) = .ptr d k o := rfl
@[go_sem] theorem dem_clo (f : Nat) (a b : List PV) : dem (.clo f a b) = .clo f a b := rfl
@[go_sem] theorem dem_no (z : Nat) (es : List (List PV)) : dem (.sl .no z es) = .sl .no z es := rfl
@[go_sem] theorem dem_nil (z : Nat) (es : List (List PV)) : dem (.sl .nil z es) = .sl .nil z es := rfl
@[go_sem] theorem dem_ow (z : Nat) (es : List (List PV)) : dem (.sl .own z es) = .sl .no z es := rfl
@[go_sem] theorem dem_al (s : Src) (z : Nat) (es : List (List PV)) : dem (.sl (.al s) z es) = .sl .no z es := rfl
attribute [go_sem] storeOK and_self and_true true_and dems canons canon pfs pf isOwn moved aliased loaded homes home pfrs pfr ownSubS ownSubs ownSub hasN outws outw setCells eqCells bytesOf
@[go_sem] theorem some_map {α β : Type} (f : α → β) (x : α) : Option.map f (some x) = some (f x) := rfl
@[go_sem] theorem none_map {α β : Type} (f : α → β) : Option.map f none = none := rfl
@[go_sem] theorem some_bind {α β : Type} (f : α → Option β) (x : α) : Option.bind (some x) f = f x := rfl
@[go_sem] theorem none_bind {α β : Type} (f : α → Option β) : Option.bind none f = none := rfl
attribute [go_sem] List.map_nil List.map_cons List.length_nil List.length_cons List.cons_append List.nil_append List.append_nil List.getElem?_nil List.getElem?_cons_zero List.getElem?_cons_succ
  List.set_cons_zero List.set_cons_succ List.take_zero List.take_succ_cons List.drop_zero List.drop_succ_cons List.zipWith_cons_cons List.zipWith_nil_left Bool.not_true Bool.not_false
  Bool.and_true Bool.true_and Bool.and_false Bool.false_and Bool.false_eq_true if_true if_false

@[go_sem] theorem cellsOf_agg (n : Nat) (cs : List PV) : cellsOf (some n) (.agg cs) = selB (cs.length == n) (some cs) none := by
  show (if Nat.beq cs.length n = true then _ else _) = _
  rw [beq_of]; cases Nat.beq cs.length n <;> rfl
@[go_sem] theorem cellsOf_one (p : PV) : cellsOf none p = selB (cellOK p) (some [p]) none := by
  simp only [cellsOf]; cases cellOK p <;> rfl
@[go_sem] theorem cellOK_int (k : IntKind) (n : Int) : cellOK (.sc (.int k n)) = true := rfl
@[go_sem] theorem cellOK_str (s : ByteArray) : cellOK (.sc (.string s)) = true := rfl
@[go_sem] theorem cellOK_bool (b : Bool) : cellOK (.sc (.bool b)) = true := rfl
@[go_sem] theorem cellOK_ptrv (a : Option Addr) : cellOK (.sc (.pointer a)) = true := rfl
@[go_sem] theorem cellOK_map (a : Option Nat) : cellOK (.sc (.map a)) = true := rfl
@[go_sem] theorem cellOK_nilF : cellOK (.sc .nilFunc) = true := rfl
@[go_sem] theorem cellOK_nilI : cellOK (.sc .nilIface) = true := rfl
@[go_sem] theorem cellOK_sl (f : Fl) (z : Nat) (es : List (List PV)) : cellOK (.sl f z es) = true := rfl
@[go_sem] theorem cellOK_own (k o : Nat) : cellOK (.own k o) = true := rfl
@[go_sem] theorem cellOK_ptr (d k o : Nat) : cellOK (.ptr d k o) = true := rfl
@[go_sem] theorem cellOK_clo (f : Nat) (a b : List PV) : cellOK (.clo f a b) = true := rfl
@[go_sem] theorem cellsOK_nil : cellsOK [] = true := rfl
@[go_sem] theorem cellsOK_cons (p : PV) (ps : List PV) : cellsOK (p :: ps) = (cellOK p && cellsOK ps) := rfl
@[go_sem] theorem part_one (off : Nat) (cs : List PV) : part none off cs = (cs[off]?).map dem := rfl
@[go_sem] theorem part_many (n off : Nat) (cs : List PV) : part (some n) off cs = if off + n ≤ cs.length then some (.agg (canons ((cs.drop off).take n))) else none := by
  show (if Nat.ble (off + n) cs.length = true then _ else _) = _
  by_cases h : off + n ≤ cs.length
  · rw [if_pos h, if_pos (Nat.ble_eq_true_of_le h)]
  · rw [if_neg h, if_neg (fun e => h (Nat.le_of_ble_eq_true e))]
@[go_sem] theorem buildParts_nil (cs : List PV) : buildParts [] cs = some cs := rfl
@[go_sem] theorem buildParts_cons (off : Nat) (n : Option Nat) (v : PV) (ps : List (Nat × Option Nat × PV)) (cs : List PV) :
    buildParts ((off, n, v) :: ps) cs = (cellsOf n (canon v)).bind fun vs => if off + vs.length ≤ cs.length then buildParts ps (setCells off vs cs) else none := by
  simp only [buildParts]
  cases cellsOf n (canon v) with
  | none => rfl
  | some vs =>
    show (if Nat.ble (off + vs.length) cs.length = true then _ else _) = _
    by_cases h : off + vs.length ≤ cs.length
    · rw [if_pos (Nat.ble_eq_true_of_le h)]; simp only [Option.bind_some, if_pos h]
    · rw [if_neg (fun e => h (Nat.le_of_ble_eq_true e))]; simp only [Option.bind_some, if_neg h]
attribute [go_sem] Nat.le_refl Nat.zero_add Nat.add_zero List.take_length

@[go_sem] theorem elems_nil (z : Nat) (one : Bool) : elems z one [] = some [] := rfl
@[go_sem] theorem elems_cons (z : Nat) (one : Bool) (v : PV) (vs : List PV) : elems z one (v :: vs) = (cellsOf (if one then none else some z) (canon v)).bind fun c => (elems z one vs).bind fun r =>
    selB (c.length == z && (pfs c && cellsOK c)) (some (c :: r)) none := by
  simp only [elems]
  generalize cellsOf (if one then none else some z) (canon v) = c
  generalize elems z one vs = r
  cases c with
  | none => rfl
  | some c => cases r with
    | none => rfl
    | some r => simp only [Option.bind_some]; rw [beq_of]; cases (Nat.beq c.length z && (pfs c && cellsOK c)) <;> rfl

-- regions, guards
@[go_sem] theorem runReg_def (ops : List IOper) (keep : List Nat) (st : FS Ω) :
    runReg Γ ops keep st = (runOps Γ ops st).map fun s => { s with sl := keepS keep s.sl, dirty := false } := rfl
@[go_sem] theorem runOps_nil : runOps Γ [] st = some st := rfl
@[go_sem] theorem runOps_plain (d : Option Nat) (op : IOp) (os : List IOper) : runOps Γ (⟨d, op, none⟩ :: os) st = (stepOp Γ ⟨d, op, none⟩ st).bind (runOps Γ os) := rfl
def gate (v : PV) (w : Bool) (x y : Option (FS Ω)) : Option (FS Ω) :=
  match v with
  | .sc (.bool b) => if b == w then x else y
  | .sc _ => y
  | _ => none
@[go_sem] theorem runOps_guard (d : Option Nat) (op : IOp) (j : Nat) (w : Bool) (os : List IOper) :
    runOps Γ (⟨d, op, some (j, w)⟩ :: os) st = (gate (getS st.sl j) w (stepOp Γ ⟨d, op, none⟩ st) (some (st.put d (.sc Go.undef)))).bind (runOps Γ os) := by
  simp only [runOps, stepG, gate]; rfl
@[go_sem] theorem gate_tt (x y : Option (FS Ω)) : gate (.sc (.bool true)) true x y = x := rfl
@[go_sem] theorem gate_tf (x y : Option (FS Ω)) : gate (.sc (.bool true)) false x y = y := rfl
@[go_sem] theorem gate_ft (x y : Option (FS Ω)) : gate (.sc (.bool false)) true x y = y := rfl
@[go_sem] theorem gate_ff (x y : Option (FS Ω)) : gate (.sc (.bool false)) false x y = x := rfl
@[go_sem] theorem gate_undef (w : Bool) (x y : Option (FS Ω)) : gate (.sc Go.undef) w x y = y := rfl
theorem gate_bt (t : Bool) (x y : Option (FS Ω)) : gate (.sc (.bool t)) true x y = if t = true then x else y := by cases t <;> rfl
theorem gate_bf (t : Bool) (x y : Option (FS Ω)) : gate (.sc (.bool t)) false x y = if t = true then y else x := by cases t <;> rfl
theorem bind_ite {α β : Type} (c : Prop) [Decidable c] (x y : Option α) (f : α → Option β) : (if c then x else y).bind f = if c then x.bind f else y.bind f := by split <;> rfl

-- code
attribute [go_sem] denL_skip denL_ret denL_exit denL_exitB denL_retB denL_seq denL_block denL_reg andThen_normal andThen_exit andThen_ret andThen_none
@[go_sem] theorem unblock_normal (id : Nat) (s : FS Ω) : unblock id (some (.normal, s)) = some (.normal, s) := rfl
@[go_sem] theorem unblock_ret (id : Nat) (s : FS Ω) : unblock id (some (.ret, s)) = some (.ret, s) := rfl
@[go_sem] theorem unblock_exit (id i : Nat) (s : FS Ω) : unblock id (some (.exit i, s)) = selB (i == id) (some (.normal, s)) (some (.exit i, s)) := by
  show (if Nat.beq i id = true then _ else _) = _
  rw [beq_of]; cases Nat.beq i id <;> rfl
@[go_sem] theorem unblock_ite (id : Nat) (c : Prop) [Decidable c] (a b : Option (IExit × FS Ω)) : unblock id (if c then a else b) = if c then unblock id a else unblock id b := by split <;> rfl
@[go_sem] theorem andThen_ite (c : Prop) [Decidable c] (a b : Option (IExit × FS Ω)) (k : FS Ω → Option (IExit × FS Ω)) :
    andThen (if c then a else b) k = if c then andThen a k else andThen b k := by split <;> rfl

noncomputable def condL (T : Nat → Option (Ent Ω)) (v : PV) (a b : ICode) (st : FS Ω) : Option (IExit × FS Ω) :=
  match v with
  | .sc (.bool true) => denL T a st
  | .sc (.bool false) => denL T b st
  | _ => none
@[go_sem] theorem denL_cond' (c : Opd) (a b : ICode) (st : FS Ω) : denL T (.cond c a b) st = condL T (st.rd c) a b st := denL_cond T c a b st
theorem condL_bool (t : Bool) (a b : ICode) (st : FS Ω) : condL T (.sc (.bool t)) a b st = if t = true then denL T a st else denL T b st := by
  cases t <;> rfl

-- operations
variable (sl : List (Nat × PV)) (L : Fr Ω) (S : List (Fr Ω)) (b : Bool)
@[go_sem] theorem step_mv_t (x : Nat) : stepOp Γ ⟨d, .mv (.t x), none⟩ st = some (st.put d (aliased (.slot x) (st.rd (.t x)))) := rfl
@[go_sem] theorem step_mv_c (p : PV) : stepOp Γ ⟨d, .mv (.c p), none⟩ st = some (st.put d p) := rfl
@[go_sem] theorem step_mv_f (f : Nat) : stepOp Γ ⟨d, .mv (.f f), none⟩ st = some (st.put d (.clo f [] [])) := rfl
def asgTo (st : FS Ω) (d : Option Nat) (x : Opd) (v : PV) : FS Ω := { (if isOwn v then st.lose x else st).put d (moved v) with dirty := true }
@[go_sem] theorem step_asg (x : Opd) : stepOp Γ ⟨d, .asg x, none⟩ st = some (asgTo st d x (st.rd x)) := rfl
@[go_sem] theorem asgTo_sc (d : Nat) (x : Opd) (v : Value) : asgTo ⟨sl, L, S, b⟩ (some d) x (.sc v) = ⟨ins sl d (.sc v), L, S, true⟩ := rfl
@[go_sem] theorem asgTo_agg (d : Nat) (x : Opd) (v : List PV) : asgTo ⟨sl, L, S, b⟩ (some d) x (.agg v) = ⟨ins sl d (.agg v), L, S, true⟩ := rfl
@[go_sem] theorem asgTo_tup (d : Nat) (x : Opd) (v : List PV) : asgTo ⟨sl, L, S, b⟩ (some d) x (.tup v) = ⟨ins sl d (.tup v), L, S, true⟩ := rfl
@[go_sem] theorem asgTo_own (d : Nat) (x : Opd) (k o : Nat) : asgTo ⟨sl, L, S, b⟩ (some d) x (.own k o) = ⟨ins sl d (.own k o), L, S, true⟩ := rfl
@[go_sem] theorem asgTo_ptr (d : Nat) (x : Opd) (e k o : Nat) : asgTo ⟨sl, L, S, b⟩ (some d) x (.ptr e k o) = ⟨ins sl d (.ptr e k o), L, S, true⟩ := rfl
@[go_sem] theorem asgTo_clo (d : Nat) (x : Opd) (f : Nat) (p q : List PV) : asgTo ⟨sl, L, S, b⟩ (some d) x (.clo f p q) = ⟨ins sl d (.clo f p q), L, S, true⟩ := rfl
@[go_sem] theorem asgTo_no (d : Nat) (x : Opd) (z : Nat) (es : List (List PV)) : asgTo ⟨sl, L, S, b⟩ (some d) x (.sl .no z es) = ⟨ins sl d (.sl .no z es), L, S, true⟩ := rfl
@[go_sem] theorem asgTo_nil (d : Nat) (x : Opd) (z : Nat) (es : List (List PV)) : asgTo ⟨sl, L, S, b⟩ (some d) x (.sl .nil z es) = ⟨ins sl d (.sl .nil z es), L, S, true⟩ := rfl
@[go_sem] theorem asgTo_al (d : Nat) (x : Opd) (s : Src) (z : Nat) (es : List (List PV)) : asgTo ⟨sl, L, S, b⟩ (some d) x (.sl (.al s) z es) = ⟨ins sl d (.sl .no z es), L, S, true⟩ := rfl
theorem lose_t (n z : Nat) (f : Fl) (es : List (List PV)) (h : getS sl n = .sl f z es) : (⟨sl, L, S, b⟩ : FS Ω).lose (.t n) = ⟨ins sl n (.sl .no z es), L, S, b⟩ := by
  simp only [FS.lose, h]
def loseS (sl : List (Nat × PV)) (n : Nat) (p : PV) : List (Nat × PV) :=
  match p with
  | .sl _ z es => ins sl n (.sl .no z es)
  | _ => sl
theorem lose_eq (n : Nat) : (⟨sl, L, S, b⟩ : FS Ω).lose (.t n) = ⟨loseS sl n (getS sl n), L, S, b⟩ := by
  simp only [FS.lose]; generalize getS sl n = p; cases p <;> rfl
@[go_sem] theorem loseS_sl (n z : Nat) (f : Fl) (es : List (List PV)) : loseS sl n (.sl f z es) = ins sl n (.sl .no z es) := rfl
@[go_sem] theorem asgTo_ow (d x : Nat) (z : Nat) (es : List (List PV)) : asgTo ⟨sl, L, S, b⟩ (some d) (.t x) (.sl .own z es) = ⟨ins (loseS sl x (getS sl x)) d (.sl .own z es), L, S, true⟩ := by
  simp only [asgTo, isOwn, if_true, lose_eq, FS.put, moved]
@[go_sem] theorem step_pick (x y z : Opd) : stepOp Γ ⟨d, .pick x y z, none⟩ st = (pickP (st.rd x) (st.rd y) (st.rd z)).map (st.put d ·) := rfl
theorem pickP_bool (t : Bool) (u v : Value) : pickP (.sc (.bool t)) (.sc u) (.sc v) = some (.sc (if t = true then u else v)) := by cases t <;> rfl
@[go_sem] theorem pickP_true (u v : PV) : pickP (.sc (.bool true)) u v = some (canon u) := rfl
@[go_sem] theorem pickP_false (u v : PV) : pickP (.sc (.bool false)) u v = some (canon v) := rfl
@[go_sem] theorem step_box (d : Nat) (n : Option Nat) (x : Opd) : stepOp Γ ⟨some d, .box n x, none⟩ ⟨sl, L, S, b⟩ = (cellsOf n ((⟨sl, L, S, b⟩ : FS Ω).rd x)).bind fun cs =>
    match look L d with
    | none => if ownSubs [] cs = true then some ⟨ins sl d (.own d 0), ins L d (.box (dems cs)), S, b⟩ else none
    | _ => none := by
  simp only [stepOp]; cases cellsOf n ((⟨sl, L, S, b⟩ : FS Ω).rd x) <;> rfl
@[go_sem] theorem step_zalloc (d : Nat) (cs : List PV) : stepOp Γ ⟨some d, .zalloc cs, none⟩ ⟨sl, L, S, b⟩ =
    match look L d with
    | none => if ownSubs [] cs = true then some ⟨ins sl d (.own d 0), ins L d (.box (dems cs)), S, b⟩ else none
    | _ => none := rfl
@[go_sem] theorem step_build (zero : List PV) (ps : List (Nat × Option Nat × Opd)) : stepOp Γ ⟨d, .build zero ps, none⟩ st =
    (buildParts (ps.map fun p => (p.1, p.2.1, st.rd p.2.2)) (dems zero)).map fun cs => st.put d (.agg cs) := by
  simp only [stepOp, pureVal, Option.map_map]; rfl
@[go_sem] theorem step_bslice (z : Nat) (one : Bool) (es : List Opd) : stepOp Γ ⟨d, .bslice z one es, none⟩ st = (elems z one (es.map st.rd)).bind fun l => st.putR d (.sl .own z l) := rfl
@[go_sem] theorem putR_own (d z : Nat) (es : List (List PV)) : (⟨sl, L, S, b⟩ : FS Ω).putR (some d) (.sl .own z es) = selB (noAl d sl) (some ⟨ins sl d (.sl .own z es), L, S, b⟩) none := by
  simp only [FS.putR, isOwn, Bool.not_true, Bool.false_or]; cases noAl d sl <;> rfl
@[go_sem] theorem putR_none (v : PV) : st.putR none v = some st := rfl
theorem putR_plain (d : Nat) (v : PV) (h : isOwn v = false) : (⟨sl, L, S, b⟩ : FS Ω).putR (some d) v = some ⟨ins sl d v, L, S, b⟩ := by
  simp only [FS.putR, h, Bool.not_false, Bool.true_or, if_true]
@[go_sem] theorem putR_sc (d : Nat) (v : Value) : (⟨sl, L, S, b⟩ : FS Ω).putR (some d) (.sc v) = some ⟨ins sl d (.sc v), L, S, b⟩ := putR_plain sl L S b d _ rfl
@[go_sem] theorem putR_agg (d : Nat) (v : List PV) : (⟨sl, L, S, b⟩ : FS Ω).putR (some d) (.agg v) = some ⟨ins sl d (.agg v), L, S, b⟩ := putR_plain sl L S b d _ rfl
@[go_sem] theorem putR_tup (d : Nat) (v : List PV) : (⟨sl, L, S, b⟩ : FS Ω).putR (some d) (.tup v) = some ⟨ins sl d (.tup v), L, S, b⟩ := putR_plain sl L S b d _ rfl
@[go_sem] theorem putR_no (d z : Nat) (es : List (List PV)) : (⟨sl, L, S, b⟩ : FS Ω).putR (some d) (.sl .no z es) = some ⟨ins sl d (.sl .no z es), L, S, b⟩ := putR_plain sl L S b d _ rfl
@[go_sem] theorem putR_clo (d f : Nat) (p q : List PV) : (⟨sl, L, S, b⟩ : FS Ω).putR (some d) (.clo f p q) = some ⟨ins sl d (.clo f p q), L, S, b⟩ := putR_plain sl L S b d _ rfl
@[go_sem] theorem noAl_nil (d : Nat) : noAl d [] = true := rfl
@[go_sem] theorem noAl_cons (d j : Nat) (v : PV) (r : List (Nat × PV)) : noAl d ((j, v) :: r) = (!(d == j) && noAl d r) := by
  show (!Nat.beq d j && noAl d r) = _
  rw [beq_of]
@[go_sem] theorem step_loadx (av : List Nat) (n : Option Nat) (x : Opd) : stepOp Γ ⟨d, .loadx av n x, none⟩ st = if offBox av (st.rd x) = true then stepOp Γ ⟨d, .load n x, none⟩ st else none := rfl
@[go_sem] theorem step_storek (k : Nat) (n : Option Nat) (a x : Opd) : stepOp Γ ⟨d, .storek k n a x, none⟩ st = if atBox k (st.rd a) = true then stepOp Γ ⟨d, .store n a x, none⟩ st else none := rfl
attribute [go_sem] atBox
@[go_sem] theorem offBox_own (av : List Nat) (k o : Nat) : offBox av (.own k o) = !hasN av k := rfl
@[go_sem] theorem offBox_ptr (av : List Nat) (d k o : Nat) : offBox av (.ptr d k o) = true := rfl
@[go_sem] theorem offBox_elp (av : List Nat) (z : Nat) (es : List (List PV)) (i o : Nat) : offBox av (.elp z es i o) = true := rfl
@[go_sem] theorem step_load (n : Option Nat) (x : Opd) : stepOp Γ ⟨d, .load n x, none⟩ st = (st.loadV n (st.rd x)).map (st.put d ·) := rfl
def cellAt (src : Src) (cs : List PV) (off : Nat) : Option PV := (cs[off]?).map (loaded src)
@[go_sem] theorem cellAt_def (src : Src) (cs : List PV) (off : Nat) : cellAt src cs off = (cs[off]?).map (loaded src) := rfl
def boxCells (c : Option (Cel Ω)) : Option (List PV) :=
  match c with
  | some (.box cs) => some cs
  | _ => none
@[go_sem] theorem boxCells_box (cs : List PV) : boxCells (some (.box cs) : Option (Cel Ω)) = some cs := rfl
@[go_sem] theorem loadV_own1 (k off : Nat) : (⟨sl, L, S, b⟩ : FS Ω).loadV none (.own k off) = (boxCells (look L k)).bind fun cs => cellAt (.cell k off) cs off := by
  simp only [FS.loadV, FS.box?]; generalize look L k = c; rcases c with _ | (_ | _) <;> rfl
@[go_sem] theorem loadV_ownN (n k off : Nat) : (⟨sl, L, S, b⟩ : FS Ω).loadV (some n) (.own k off) = (boxCells (look L k)).bind fun cs => part (some n) off cs := by
  simp only [FS.loadV, FS.box?]; generalize look L k = c; rcases c with _ | (_ | _) <;> rfl
def outer (S : List (Fr Ω)) (d k : Nat) : Option (Cel Ω) :=
  match S[d]? with
  | some F => look F k
  | none => none
@[go_sem] theorem loadV_ptr1 (d k off : Nat) : (⟨sl, L, S, b⟩ : FS Ω).loadV none (.ptr d k off) = (boxCells (outer S d k)).bind fun cs => cellAt (.gcell d k off) cs off := by
  simp only [FS.loadV, FS.box?, outer]
  generalize S[d]? = F
  rcases F with _ | F
  · rfl
  · simp only []; generalize look F k = c; rcases c with _ | (_ | _) <;> rfl
@[go_sem] theorem loadV_ptrN (n d k off : Nat) : (⟨sl, L, S, b⟩ : FS Ω).loadV (some n) (.ptr d k off) = (boxCells (outer S d k)).bind fun cs => part (some n) off cs := by
  simp only [FS.loadV, FS.box?, outer]
  generalize S[d]? = F
  rcases F with _ | F
  · rfl
  · simp only []; generalize look F k = c; rcases c with _ | (_ | _) <;> rfl
@[go_sem] theorem loadV_elp (n : Option Nat) (z : Nat) (es : List (List PV)) (i off : Nat) : (⟨sl, L, S, b⟩ : FS Ω).loadV n (.elp z es i off) = (es[i]?).bind fun cs => part n off cs := by
  simp only [FS.loadV]; generalize es[i]? = c; cases c <;> rfl
@[go_sem] theorem step_store_own (n : Option Nat) (a x : Opd) : stepOp Γ ⟨d, .store n a x, none⟩ st = (st.box? (st.rd a)).bind fun c => (cellsOf n (st.rd x)).bind fun vs =>
      if c.2.1 + vs.length ≤ c.1.length ∧ (storeOK (st.rd a) vs && cellsOK vs) = true then
        ((if n.isNone && isOwn (st.rd x) then st.lose x else st).setBox (st.rd a) (setCells c.2.1 (if n.isNone then [moved (st.rd x)] else dems vs) c.1)).map fun st2 => { st2 with dirty := true }
      else none := by
  simp only [stepOp, FS.storeV]
  generalize st.box? (st.rd a) = c
  rcases c with _ | ⟨cs, off, src⟩
  · rfl
  · generalize cellsOf n (st.rd x) = vs
    cases vs with
    | none => rfl
    | some vs =>
      simp only [Option.bind_some]
      have e : ((off + vs.length).ble cs.length && (storeOK (st.rd a) vs && cellsOK vs)) = true ↔ (off + vs.length ≤ cs.length ∧ (storeOK (st.rd a) vs && cellsOK vs) = true) := by
        rw [Bool.and_eq_true, Nat.ble_eq]
      by_cases h : off + vs.length ≤ cs.length ∧ (storeOK (st.rd a) vs && cellsOK vs) = true
      · rw [if_pos (e.2 h), if_pos h]
        generalize FS.setBox _ (st.rd a) _ = q
        cases q <;> rfl
      · rw [if_neg (fun h' => h (e.1 h')), if_neg h]
@[go_sem] theorem box?_own (k off : Nat) : (⟨sl, L, S, b⟩ : FS Ω).box? (.own k off) = (boxCells (look L k)).map fun cs => (cs, off, Src.cell k) := by
  simp only [FS.box?]; generalize look L k = c; rcases c with _ | (_ | _) <;> rfl
@[go_sem] theorem box?_ptr (d k off : Nat) : (⟨sl, L, S, b⟩ : FS Ω).box? (.ptr d k off) = (boxCells (outer S d k)).map fun cs => (cs, off, Src.gcell d k) := by
  simp only [FS.box?, outer]
  generalize S[d]? = F
  rcases F with _ | F
  · rfl
  · simp only []; generalize look F k = c; rcases c with _ | (_ | _) <;> rfl
@[go_sem] theorem setBox_own (k off : Nat) (cs : List PV) : (⟨sl, L, S, b⟩ : FS Ω).setBox (.own k off) cs = some ⟨sl, ins L k (.box cs), S, b⟩ := rfl
attribute [go_sem] Option.isNone_none Option.isNone_some
@[go_sem] theorem lose_t' (n : Nat) : (⟨sl, L, S, b⟩ : FS Ω).lose (.t n) = ⟨loseS sl n (getS sl n), L, S, b⟩ := lose_eq sl L S b n

@[go_sem] theorem step_bin (op : BinOp) (x y : Opd) : stepOp Γ ⟨d, .bin op x y, none⟩ st = (binP op (st.rd x) (st.rd y)).map (st.put d ·) := rfl
@[go_sem] theorem binP_add (k : IntKind) (a b : Int) : binP .add (.sc (.int k a)) (.sc (.int k b)) = some (.sc (.int k (wrapI k (a + b)))) := by cases k <;> rfl
@[go_sem] theorem binP_sub (k : IntKind) (a b : Int) : binP .sub (.sc (.int k a)) (.sc (.int k b)) = some (.sc (.int k (wrapI k (a - b)))) := by cases k <;> rfl
@[go_sem] theorem binP_mul (k : IntKind) (a b : Int) : binP .mul (.sc (.int k a)) (.sc (.int k b)) = some (.sc (.int k (wrapI k (a * b)))) := by cases k <;> rfl
@[go_sem] theorem binP_quo (k : IntKind) (a b : Int) : binP .quo (.sc (.int k a)) (.sc (.int k b)) = if iEq b 0 = true then none else some (.sc (.int k (wrapI k (a.tdiv b)))) := by
  cases k <;> (simp only [binP, binV, sameK, if_true]; split <;> rfl)
@[go_sem] theorem binP_rem (k : IntKind) (a b : Int) : binP .rem (.sc (.int k a)) (.sc (.int k b)) = if iEq b 0 = true then none else some (.sc (.int k (a.tmod b))) := by
  cases k <;> (simp only [binP, binV, sameK, if_true]; split <;> rfl)
@[go_sem] theorem binP_shr (k k' : IntKind) (a b : Int) : binP .shr (.sc (.int k a)) (.sc (.int k' b)) = if iLt b 0 = true then none else some (.sc (.int k (a.fdiv (2 ^ (min (iNat b) k.bits))))) := by
  cases k <;> (simp only [binP, binV]; split <;> rfl)
@[go_sem] theorem binP_eql (k : IntKind) (a b : Int) : binP .eql (.sc (.int k a)) (.sc (.int k b)) = some (.sc (.bool (iEq a b))) := by cases k <;> rfl
@[go_sem] theorem binP_neq (k : IntKind) (a b : Int) : binP .neq (.sc (.int k a)) (.sc (.int k b)) = some (.sc (.bool (!iEq a b))) := by cases k <;> rfl
@[go_sem] theorem binP_lss (k : IntKind) (a b : Int) : binP .lss (.sc (.int k a)) (.sc (.int k b)) = some (.sc (.bool (iLt a b))) := by cases k <;> rfl
@[go_sem] theorem binP_leq (k : IntKind) (a b : Int) : binP .leq (.sc (.int k a)) (.sc (.int k b)) = some (.sc (.bool (iLe a b))) := by cases k <;> rfl
@[go_sem] theorem binP_gtr (k : IntKind) (a b : Int) : binP .gtr (.sc (.int k a)) (.sc (.int k b)) = some (.sc (.bool (iLt b a))) := by cases k <;> rfl
@[go_sem] theorem binP_geq (k : IntKind) (a b : Int) : binP .geq (.sc (.int k a)) (.sc (.int k b)) = some (.sc (.bool (iLe b a))) := by cases k <;> rfl
@[go_sem] theorem binP_seql (a b : ByteArray) : binP .eql (.sc (.string a)) (.sc (.string b)) = some (.sc (.bool (sEq a b))) := rfl
@[go_sem] theorem binP_sneq (a b : ByteArray) : binP .neq (.sc (.string a)) (.sc (.string b)) = some (.sc (.bool (!sEq a b))) := rfl
@[go_sem] theorem binP_sadd (a b : ByteArray) : binP .add (.sc (.string a)) (.sc (.string b)) = if nLe (a.size + b.size) 9223372036854775807 = true then some (.sc (.string (a ++ b))) else none := by
  simp only [binP, binV]; split <;> rfl
@[go_sem] theorem step_beq (neg : Bool) (x y : Opd) : stepOp Γ ⟨d, .beq neg x y, none⟩ st = (beqP neg (st.rd x) (st.rd y)).map (st.put d ·) := rfl
@[go_sem] theorem beqP_f (a b : Bool) : beqP false (.sc (.bool a)) (.sc (.bool b)) = some (.sc (.bool (a == b))) := rfl
@[go_sem] theorem beqP_t (a b : Bool) : beqP true (.sc (.bool a)) (.sc (.bool b)) = some (.sc (.bool (!(a == b)))) := rfl

@[go_sem] theorem step_eqs (ks : List CK) (neg : Bool) (x y : Opd) : stepOp Γ ⟨d, .eqs ks neg x y, none⟩ st = (eqsP ks neg (st.rd x) (st.rd y)).map (st.put d ·) := rfl
@[go_sem] theorem eqsP_true (ks : List CK) (a b : List PV) : eqsP ks true (.agg a) (.agg b) = (eqCells ks a b).map fun r => .sc (.bool (!r)) := rfl
@[go_sem] theorem eqsP_false (ks : List CK) (a b : List PV) : eqsP ks false (.agg a) (.agg b) = (eqCells ks a b).map fun r => .sc (.bool r) := rfl

@[go_sem] theorem step_un (op : UnOp) (x : Opd) : stepOp Γ ⟨d, .un op x, none⟩ st = (unP op (st.rd x)).map (st.put d ·) := rfl
@[go_sem] theorem unP_not (t : Bool) : unP .not (.sc (.bool t)) = some (.sc (.bool !t)) := rfl
@[go_sem] theorem unP_neg (k : IntKind) (a : Int) : unP .neg (.sc (.int k a)) = some (.sc (.int k (wrapI k (0 - a)))) := rfl
@[go_sem] theorem step_cvi (k : IntKind) (x : Opd) : stepOp Γ ⟨d, .cvi k x, none⟩ st = (cviP k (st.rd x)).map (st.put d ·) := rfl
@[go_sem] theorem cviP_int (k j : IntKind) (a : Int) : cviP k (.sc (.int j a)) = some (.sc (.int k (wrapI k a))) := rfl
@[go_sem] theorem step_same (x : Opd) : stepOp Γ ⟨d, .same x, none⟩ st = (sameP (st.rd x)).map (st.put d ·) := rfl
@[go_sem] theorem sameP_sc (s : ByteArray) : sameP (.sc (.string s)) = some (.sc (.string s)) := rfl
@[go_sem] theorem step_s2b (x : Opd) : stepOp Γ ⟨d, .s2b x, none⟩ st = (s2bP (st.rd x)).map (st.put d ·) := rfl
@[go_sem] theorem s2bP_str (s : ByteArray) : s2bP (.sc (.string s)) = some (.sl .no 1 (s.data.toList.map fun b => [.sc (.int .u8 b.toNat)])) := rfl
@[go_sem] theorem step_b2s (x : Opd) : stepOp Γ ⟨d, .b2s x, none⟩ st = (b2sP (st.rd x)).map (st.put d ·) := rfl
@[go_sem] theorem b2sP_sl (f : Fl) (es : List (List PV)) : b2sP (.sl f 1 es) = (bytesOf es).map fun l => .sc (.string ⟨l.toArray⟩) := rfl
@[go_sem] theorem step_faddr (off : Nat) (x : Opd) : stepOp Γ ⟨d, .faddr off x, none⟩ st = (faddrP off (st.rd x)).map (st.put d ·) := rfl
@[go_sem] theorem faddrP_own (off k o : Nat) : faddrP off (.own k o) = some (.own k (o + off)) := rfl
@[go_sem] theorem faddrP_ptr (off e k o : Nat) : faddrP off (.ptr e k o) = some (.ptr e k (o + off)) := rfl
@[go_sem] theorem faddrP_elp (off z : Nat) (es : List (List PV)) (i o : Nat) : faddrP off (.elp z es i o) = some (.elp z es i (o + off)) := rfl
@[go_sem] theorem step_fld (off : Nat) (n : Option Nat) (x : Opd) : stepOp Γ ⟨d, .fld off n x, none⟩ st = (fldP off n (st.rd x)).map (st.put d ·) := rfl
@[go_sem] theorem fldP_agg (off : Nat) (n : Option Nat) (cs : List PV) : fldP off n (.agg cs) = part n off cs := rfl
@[go_sem] theorem step_nilchk (x : Opd) : stepOp Γ ⟨d, .nilchk x, none⟩ st = (nilchkP (st.rd x)).map (st.put d ·) := rfl
@[go_sem] theorem nilchkP_own (k o : Nat) : nilchkP (.own k o) = some (.own k o) := rfl
@[go_sem] theorem nilchkP_ptr (e k o : Nat) : nilchkP (.ptr e k o) = some (.ptr e k o) := rfl
@[go_sem] theorem nilchkP_elp (z : Nat) (es : List (List PV)) (i o : Nat) : nilchkP (.elp z es i o) = some (.elp z es i o) := rfl
@[go_sem] theorem nilchkP_clo (f : Nat) (p q : List PV) : nilchkP (.clo f p q) = some (.clo f p q) := rfl
@[go_sem] theorem step_extr (x : Opd) (i : Nat) : stepOp Γ ⟨d, .extr x i, none⟩ st = (extrP i (st.rd x)).map (st.put d ·) := rfl
@[go_sem] theorem extrP_tup (i : Nat) (vs : List PV) : extrP i (.tup vs) = (vs[i]?).map dem := rfl
@[go_sem] theorem step_len (x : Opd) : stepOp Γ ⟨d, .len x, none⟩ st = (lenP (st.rd x)).map (st.put d ·) := rfl
@[go_sem] theorem step_slen (x : Opd) : stepOp Γ ⟨d, .slen x, none⟩ st = (slenP (st.rd x)).map (st.put d ·) := rfl
@[go_sem] theorem lenP_str (s : ByteArray) : slenP (.sc (.string s)) = some (.sc (.int .i64 (nInt s.size))) := rfl
@[go_sem] theorem lenP_sl (f : Fl) (z : Nat) (es : List (List PV)) : lenP (.sl f z es) = some (.sc (.int .i64 (nInt es.length))) := rfl
@[go_sem] theorem step_eqnil (neg : Bool) (x : Opd) : stepOp Γ ⟨d, .eqnil neg x, none⟩ st = (eqnilP neg (st.rd x)).map (st.put d ·) := rfl
@[go_sem] theorem eqnilP_own (neg : Bool) (k o : Nat) : eqnilP neg (.own k o) = some (.sc (.bool neg)) := rfl
@[go_sem] theorem eqnilP_ptr (neg : Bool) (e k o : Nat) : eqnilP neg (.ptr e k o) = some (.sc (.bool neg)) := rfl
@[go_sem] theorem eqnilP_pnil (neg : Bool) : eqnilP neg (.sc (.pointer none)) = some (.sc (.bool !neg)) := rfl
@[go_sem] theorem step_eqnils (neg : Bool) (x : Opd) : stepOp Γ ⟨d, .eqnils neg x, none⟩ st = (eqnilsP neg (st.rd x)).map (st.put d ·) := rfl
@[go_sem] theorem eqnilP_nil (neg : Bool) (z : Nat) (es : List (List PV)) : eqnilsP neg (.sl .nil z es) = some (.sc (.bool !neg)) := by cases es <;> rfl
@[go_sem] theorem step_iaddr (z : Nat) (x i : Opd) : stepOp Γ ⟨d, .iaddr z x i, none⟩ st = (iaddrP z (st.rd x) (st.rd i)).map (st.put d ·) := rfl
@[go_sem] theorem iaddrP_sl (z : Nat) (f : Fl) (es : List (List PV)) (k : IntKind) (i : Int) : iaddrP z (.sl f z es) (.sc (.int k i)) = if inR i es.length = true then some (.elp z es (iNat i) 0) else none := by
  simp [iaddrP, Nat.beq_refl]
@[go_sem] theorem step_aaddr (len z : Nat) (x i : Opd) : stepOp Γ ⟨d, .aaddr len z x i, none⟩ st = (aaddrP len z (st.rd x) (st.rd i)).map (st.put d ·) := rfl
@[go_sem] theorem aaddrP_own (len z k o : Nat) (kd : IntKind) (i : Int) : aaddrP len z (.own k o) (.sc (.int kd i)) = if inR i len = true then some (.own k (o + iNat i * z)) else none := rfl
@[go_sem] theorem step_istr (x i : Opd) : stepOp Γ ⟨d, .istr x i, none⟩ st = (istrP (st.rd x) (st.rd i)).map (st.put d ·) := rfl
@[go_sem] theorem istrP_str (s : ByteArray) (k : IntKind) (i : Int) : istrP (.sc (.string s)) (.sc (.int k i)) = if inR i s.size = true then some (.sc (.int .u8 (s.data.toList.getD (iNat i) 0).toNat)) else none := rfl
@[go_sem] theorem step_iarr (len z : Nat) (n : Option Nat) (x i : Opd) : stepOp Γ ⟨d, .iarr len z n x i, none⟩ st = (iarrP len z n (st.rd x) (st.rd i)).map (st.put d ·) := rfl
@[go_sem] theorem iarrP_agg (len z : Nat) (n : Option Nat) (cs : List PV) (k : IntKind) (i : Int) : iarrP len z n (.agg cs) (.sc (.int k i)) = if inR i len = true then part n (iNat i * z) cs else none := rfl
@[go_sem] theorem step_mm (mx : Bool) (x y : Opd) : stepOp Γ ⟨d, .mm mx x y, none⟩ st = (mmP mx (st.rd x) (st.rd y)).map (st.put d ·) := rfl
@[go_sem] theorem mmP_max (k : IntKind) (a b : Int) : mmP true (.sc (.int k a)) (.sc (.int k b)) = some (.sc (.int k (max a b))) := by cases k <;> rfl
@[go_sem] theorem mmP_min (k : IntKind) (a b : Int) : mmP false (.sc (.int k a)) (.sc (.int k b)) = some (.sc (.int k (min a b))) := by cases k <;> rfl
@[go_sem] theorem step_mkfn (f : Nat) (p q : List Opd) : stepOp Γ ⟨d, .mkfn f p q, none⟩ st = some (st.put d (.clo f (canons (p.map st.rd)) (canons (q.map st.rd)))) := rfl
@[go_sem] theorem step_slice00 (z : Nat) (x : Opd) : stepOp Γ ⟨d, .slice z x none none, none⟩ st = (sliceP z (st.rd x) none none).map (st.put d ·) := rfl
@[go_sem] theorem step_slice10 (z : Nat) (x a : Opd) : stepOp Γ ⟨d, .slice z x (some a) none, none⟩ st = (sliceP z (st.rd x) (some (st.rd a)) none).map (st.put d ·) := rfl
@[go_sem] theorem step_slice01 (z : Nat) (x c : Opd) : stepOp Γ ⟨d, .slice z x none (some c), none⟩ st = (sliceP z (st.rd x) none (some (st.rd c))).map (st.put d ·) := rfl
@[go_sem] theorem step_slice11 (z : Nat) (x a c : Opd) : stepOp Γ ⟨d, .slice z x (some a) (some c), none⟩ st = (sliceP z (st.rd x) (some (st.rd a)) (some (st.rd c))).map (st.put d ·) := rfl
@[go_sem] theorem step_sslice10 (x a : Opd) : stepOp Γ ⟨d, .sslice x (some a) none, none⟩ st = (ssliceP (st.rd x) (some (st.rd a)) none).map (st.put d ·) := rfl
@[go_sem] theorem step_sslice01 (x c : Opd) : stepOp Γ ⟨d, .sslice x none (some c), none⟩ st = (ssliceP (st.rd x) none (some (st.rd c))).map (st.put d ·) := rfl
@[go_sem] theorem step_sslice11 (x a c : Opd) : stepOp Γ ⟨d, .sslice x (some a) (some c), none⟩ st = (ssliceP (st.rd x) (some (st.rd a)) (some (st.rd c))).map (st.put d ·) := rfl
theorem sB_none (d top : Nat) : sliceBound d top none = some d := rfl
theorem sB_int (d top : Nat) (k : IntKind) (i : Int) : sliceBound d top (some (.sc (.int k i))) = if inR1 i top = true then some (iNat i) else none := rfl
@[go_sem] theorem slP00 (f : Fl) (z : Nat) (es : List (List PV)) : sliceP z (.sl f z es) none none = some (.sl .no z es) := by
  simp [sliceP, sB_none, Nat.beq_refl]
@[go_sem] theorem slP10 (f : Fl) (z : Nat) (es : List (List PV)) (k : IntKind) (i : Int) : sliceP z (.sl f z es) (some (.sc (.int k i))) none =
    if inR1 i es.length = true then some (.sl .no z (es.drop (iNat i))) else none := by
  simp only [sliceP, Nat.beq_refl, if_true, sB_none, sB_int, Option.bind_some, List.take_length]; split <;> rfl
@[go_sem] theorem slP01 (f : Fl) (z : Nat) (es : List (List PV)) (k : IntKind) (i : Int) : sliceP z (.sl f z es) none (some (.sc (.int k i))) =
    if inR1 i es.length = true then some (.sl .no z (es.take (iNat i))) else none := by
  simp only [sliceP, Nat.beq_refl, if_true, sB_none, sB_int]; split <;> rfl
@[go_sem] theorem slP11 (f : Fl) (z : Nat) (es : List (List PV)) (k k' : IntKind) (i j : Int) : sliceP z (.sl f z es) (some (.sc (.int k i))) (some (.sc (.int k' j))) =
    if inR1 j es.length = true then (if inR1 i (iNat j) = true then some (.sl .no z ((es.take (iNat j)).drop (iNat i))) else none) else none := by
  simp only [sliceP, Nat.beq_refl, if_true, sB_int]; split
  · simp only [Option.bind_some]; split <;> rfl
  · rfl
@[go_sem] theorem slPs10 (s : ByteArray) (k : IntKind) (i : Int) : ssliceP (.sc (.string s)) (some (.sc (.int k i))) none =
    if inR1 i s.size = true then some (.sc (.string (s.extract (iNat i) s.size))) else none := by
  simp only [ssliceP, sB_none, sB_int, Option.bind_some]; split <;> rfl
@[go_sem] theorem slPs01 (s : ByteArray) (k : IntKind) (i : Int) : ssliceP (.sc (.string s)) none (some (.sc (.int k i))) =
    if inR1 i s.size = true then some (.sc (.string (s.extract 0 (iNat i)))) else none := by
  simp only [ssliceP, sB_none, sB_int]; split <;> rfl
@[go_sem] theorem slPs11 (s : ByteArray) (k k' : IntKind) (i j : Int) : ssliceP (.sc (.string s)) (some (.sc (.int k i))) (some (.sc (.int k' j))) =
    if inR1 j s.size = true then (if inR1 i (iNat j) = true then some (.sc (.string (s.extract (iNat i) (iNat j)))) else none) else none := by
  simp only [ssliceP, sB_int]; split
  · simp only [Option.bind_some]; split <;> rfl
  · rfl

-- append
def appP (st : FS Ω) (d : Option Nat) (src : Option Src) (z : Nat) (x : Opd) (f : Fl) (l : List (List PV)) : Option (FS Ω) :=
  match f, src with
  | .nil, none => st.putR d (.sl .own z l)
  | .nil, some _ => if st.dirty then none else st.putR d (.sl .own z l)
  | .own, none => (st.lose x).putR d (.sl .own z l)
  | .al (.slot t), some (.slot t') => if Nat.beq t t' && !st.dirty && ownZ z (st.rd (.t t)) then (st.lose (.t t)).putR d (.sl .own z l) else none
  | .al (.cell k off), some (.cell ..) =>
    if st.dirty then none else
    match look st.L k with
    | some (.box cs) => match cs[off]? with
      | some (.sl .own z' es') => if Nat.beq z' z then ({ st with L := ins st.L k (.box (cs.set off (.sl .no z' es'))) } : FS Ω).putR d (.sl .own z l) else none
      | _ => none
    | _ => none
  | .al (.gcell e k off), some (.cell ..) =>
    if st.dirty then none else
    match st.S[e]? with
    | some F => match look F k with
      | some (.box cs) => match cs[off]? with
        | some (.sl .own z' es') => if Nat.beq z' z then ({ st with S := st.S.set e (ins F k (.box (cs.set off (.sl .no z' es')))) } : FS Ω).putR d (.sl .own z l) else none
        | _ => none
      | _ => none
    | none => none
  | _, _ => none
def appV (st : FS Ω) (d : Option Nat) (src : Option Src) (z bytes : Nat) (x : Opd) (u v : PV) : Option (FS Ω) :=
  match u, v with
  | .sl f z1 es, .sl _ z2 fs => if Nat.beq z1 z && Nat.beq z2 z && nLe ((es.length + fs.length) * bytes) maxBytes then appP st d src z x f (es ++ fs) else none
  | _, _ => none
@[go_sem] theorem step_app (src : Option Src) (z bytes : Nat) (x y : Opd) : stepOp Γ ⟨d, .app src z bytes x y, none⟩ st = appV st d src z bytes x (st.rd x) (st.rd y) := rfl
@[go_sem] theorem appV_sl (src : Option Src) (z bytes : Nat) (x : Opd) (f g : Fl) (es fs : List (List PV)) :
    appV st d src z bytes x (.sl f z es) (.sl g z fs) = if nLe ((es.length + fs.length) * bytes) maxBytes = true then appP st d src z x f (es ++ fs) else none := by
  simp [appV, Nat.beq_refl]
@[go_sem] theorem appP_nil (z : Nat) (x : Opd) (l : List (List PV)) : appP st d none z x .nil l = st.putR d (.sl .own z l) := rfl
@[go_sem] theorem appP_nil2 (s : Src) (z : Nat) (x : Opd) (l : List (List PV)) : appP ⟨sl, L, S, false⟩ d (some s) z x .nil l = (⟨sl, L, S, false⟩ : FS Ω).putR d (.sl .own z l) := by
  cases s <;> rfl
@[go_sem] theorem appP_own (z n : Nat) (l : List (List PV)) : appP ⟨sl, L, S, b⟩ d none z (.t n) .own l = (⟨loseS sl n (getS sl n), L, S, b⟩ : FS Ω).putR d (.sl .own z l) := by
  simp only [appP, lose_eq]
@[go_sem] theorem appP_slot (z t : Nat) (x : Opd) (l : List (List PV)) : appP ⟨sl, L, S, false⟩ d (some (.slot t)) z x (.al (.slot t)) l =
    if ownZ z (getS sl t) = true then (⟨loseS sl t (getS sl t), L, S, false⟩ : FS Ω).putR d (.sl .own z l) else none := by
  simp only [appP, lose_eq, Nat.beq_refl, Bool.not_false, Bool.true_and, FS.rd]
@[go_sem] theorem nbeq_self (z : Nat) : Nat.beq z z = true := Nat.beq_refl z
@[go_sem] theorem ownZ_own (z : Nat) (es : List (List PV)) : ownZ z (.sl .own z es) = true := Nat.beq_refl z
@[go_sem] theorem appP_cell (z k off i j : Nat) (x : Opd) (l : List (List PV)) : appP ⟨sl, L, S, false⟩ d (some (.cell i j)) z x (.al (.cell k off)) l =
    (boxCells (look L k)).bind fun cs => match cs[off]? with
      | some (.sl .own z' es') => if Nat.beq z' z then (⟨sl, ins L k (.box (cs.set off (.sl .no z' es'))), S, false⟩ : FS Ω).putR d (.sl .own z l) else none
      | _ => none := by
  simp only [appP, Bool.false_eq_true, if_false]
  generalize look L k = c
  rcases c with _ | (_ | _) <;> rfl

-- calls
@[go_sem] theorem step_call (f : Nat) (as : List Opd) : stepOp Γ ⟨d, .call f as, none⟩ st = st.qcall Γ d f (canons (as.map st.rd)) := rfl
@[go_sem] theorem step_callx (f : Nat) (as : List Opd) : stepOp Γ ⟨d, .callx f as, none⟩ st = st.xcall Γ d f (canons (as.map st.rd)) := rfl
def cloV (q : Bool) (Γ : Orc Ω) (st : FS Ω) (d : Option Nat) (c : PV) (vs : List PV) : Option (FS Ω) :=
  match c with
  | .clo f first caps => if q then st.qcall Γ d f (canons (first ++ vs ++ caps)) else st.xcall Γ d f (canons (first ++ vs ++ caps))
  | _ => none
@[go_sem] theorem step_callv (x : Opd) (as : List Opd) : stepOp Γ ⟨d, .callv x as, none⟩ st = cloV true Γ st d (st.rd x) (as.map st.rd) := by
  simp only [stepOp, cloV]; generalize st.rd x = p; cases p <;> rfl
@[go_sem] theorem step_callvx (x : Opd) (as : List Opd) : stepOp Γ ⟨d, .callvx x as, none⟩ st = cloV false Γ st d (st.rd x) (as.map st.rd) := by
  simp only [stepOp, cloV]; generalize st.rd x = p; cases p <;> rfl
@[go_sem] theorem cloV_q (f : Nat) (p vs q : List PV) : cloV true Γ st d (.clo f p q) vs = st.qcall Γ d f (canons (p ++ vs ++ q)) := rfl
@[go_sem] theorem cloV_x (f : Nat) (p vs q : List PV) : cloV false Γ st d (.clo f p q) vs = st.xcall Γ d f (canons (p ++ vs ++ q)) := rfl
@[go_sem] theorem qcall_def (f : Nat) (vs : List PV) : st.qcall Γ d f vs = if pfs vs = true then (Γ f vs []).bind fun r => st.homed d r.1 r.2.1 else none := rfl
@[go_sem] theorem xcall_def (f : Nat) (vs : List PV) : (⟨sl, L, S, b⟩ : FS Ω).xcall Γ d f vs = (Γ f (outws S.length vs) (S ++ [L])).bind fun r =>
    (r.2.2[S.length]?).bind fun L' => if (sameKeys L L' && Nat.beq r.2.2.length (S.length + 1)) = true then (⟨sl, L', r.2.2.take S.length, true⟩ : FS Ω).homed d r.1 r.2.1 else none := rfl
attribute [go_sem] sameKeys
@[go_sem] theorem step_callr (f : Nat) (as : List Opd) : stepOp Γ ⟨d, .callr f as, none⟩ st = st.rcall Γ d f (canons (as.map st.rd)) := rfl
@[go_sem] theorem rcall_def (f : Nat) (vs : List PV) : (⟨sl, L, S, b⟩ : FS Ω).rcall Γ d f vs = (Γ f (outws S.length vs) (S ++ [L])).bind fun r => match r.2.1 with
    | none => (⟨sl, L, S, true⟩ : FS Ω).homed d r.1 none
    | some _ => none := rfl
@[go_sem] theorem homed_none (r : PV) : st.homed d r none = if pf r = true then st.putR d r else none := rfl
@[go_sem] theorem homed_some (d : Nat) (r : PV) (c : Cel Ω) : (⟨sl, L, S, b⟩ : FS Ω).homed (some d) r (some c) =
    match look L d with
    | none => some ⟨ins sl d (home d r), ins L d c, S, b⟩
    | _ => none := rfl

-- results
@[go_sem] theorem finish_ret (rets : List (Nat × Option (Option Nat))) (g : Bool) (st : FS Ω) : finish rets g (some (.ret, st)) = retOf rets g st := rfl
@[go_sem] theorem finish_normal (rets : List (Nat × Option (Option Nat))) (g : Bool) (st : FS Ω) : finish rets g (some (.normal, st)) = retOf rets g st := rfl
@[go_sem] theorem finish_ite (rets : List (Nat × Option (Option Nat))) (g : Bool) (c : Prop) [Decidable c] (x y : Option (IExit × FS Ω)) :
    finish rets g (if c then x else y) = if c then finish rets g x else finish rets g y := by split <;> rfl
def answer (st : FS Ω) (v : PV) : Option (Ret Ω) :=
  match ownIn v with
  | none => if pfr v then some (v, none, st.S) else none
  | some k => match look st.L k with
    | some (.box cs) => if pfrs (freshed k v :: []) && pfs cs then some (freshed k v, some (.box (canons cs)), st.S) else none
    | some (.opq x) => if pfrs (freshed k v :: []) then some (freshed k v, some (.opq x), st.S) else none
    | _ => none
@[go_sem] theorem retOf_one (t : Nat) (st : FS Ω) : retOf [(t, none)] false st = answer st (canon (st.rd (.t t))) := rfl
@[go_sem] theorem answer_sc (v : Value) (st : FS Ω) : answer st (.sc v) = some (.sc v, none, st.S) := rfl
@[go_sem] theorem answer_no (z : Nat) (es : List (List PV)) (f : Fl) (st : FS Ω) : answer st (.sl f z es) = some (.sl f z es, none, st.S) := rfl
theorem cg_bind {α β : Type} {x y : Option α} {f : α → Option β} (h : x = y) : x.bind f = y.bind f := by rw [h]
theorem cg_map {α β : Type} {x y : Option α} {f : α → β} (h : x = y) : x.map f = y.map f := by rw [h]
theorem cg_andThen {x y : Option (IExit × FS Ω)} {k : FS Ω → Option (IExit × FS Ω)} (h : x = y) : andThen x k = andThen y k := by rw [h]
theorem cg_denL {c : ICode} {s s' : FS Ω} (h : s = s') : denL T c s = denL T c s' := by rw [h]
theorem cg_condL {v v' : PV} {a b : ICode} {s s' : FS Ω} (h : v = v') (h2 : s = s') : condL T v a b s = condL T v' a b s' := by rw [h, h2]
theorem cg_runOps {os : List IOper} {s s' : FS Ω} (h : s = s') : runOps Γ os s = runOps Γ os s' := by rw [h]
theorem cg_stepOp {o : IOper} {s s' : FS Ω} (h : s = s') : stepOp Γ o s = stepOp Γ o s' := by rw [h]
theorem cg_gate {v v' : PV} {w : Bool} {x y : Option (FS Ω)} (h : v = v') : gate v w x y = gate v' w x y := by rw [h]
theorem map_ite {α β : Type} (c : Prop) [Decidable c] (x y : Option α) (f : α → β) : (if c then x else y).map f = if c then x.map f else y.map f := by split <;> rfl
end
end Go.Fw
end
