import Derived.Test.YtbikkfomnbmkpaaDoorFwB
import Derived.Laws.StructEq
namespace Fw
open Go Go.RowKit

/-! ### 4. Types of the program -/
def tysOf (P : Program) : Nat → TypeId → Option (List Ty)
  | 0, _ => none
  | n + 1, t =>
    match P.underlying t with
    | some .bool => some [.bool]
    | some (.int k) => some [.int k]
    | some .string => some [.str]
    | some (.slice e) => (tysOf P n e).map fun ts => [.slc ts]
    | some (.struct fs) => (fs.toList.mapM fun f => tysOf P n f.type).map List.flatten
    | _ => none
def isAggB (P : Program) (t : TypeId) : Bool :=
  match P.underlying t with
  | some (.struct _) | some (.array _ _) => true
  | _ => false
def known (P : Program) (t : TypeId) : Bool := (P.info? t).isSome && (P.underlying t).isSome
def zeroE : Ty → E
  | .bool => .b false
  | .int k => .n k 0
  | .str => .s ByteArray.empty
  | .slc ts => .lit ts []
def isZero : Ty → Value → Bool
  | .bool, .bool false => true
  | .int k, .int k' 0 => decide (k = k')
  | .str, .string s => s.size == 0
  | .slc _, .slice none 0 0 => true
  | _, _ => false
def areZero : List Ty → List Value → Bool
  | [], [] => true
  | t :: ts, v :: vs => isZero t v && areZero ts vs
  | _, _ => false

/-! ### 5. One operation -/
/-- What is told of a function's callees: their results; of those that take objects, which arguments are objects; and the slots whose slices are to be owned. -/
structure Sigs where
  fs : List (Nat × List K)
  ob : List (Nat × List (Option (Nat × List CK)))
  own : List Nat
/-- The numbers' blocks, one by one, replaced. -/
def setAll {α : Type} (o : List α) : List Nat → List α → List α
  | id :: ids, b :: bs => setAll (o.set id b) ids bs
  | _, _ => o

/-- What becomes of the call's own blocks. -/
inductive Eff where
  | keep | set (id : Nat) (b : OB) | push (b : OB) | sets (ids : List Nat) (bs : List OB)
def Eff.app : Eff → List OB → List OB
  | .keep, o => o
  | .set id b, o => o.set id b
  | .push b, o => o ++ [b]
  | .sets ids bs, o => setAll o ids bs
inductive OR where
  | bad
  | val (s : SV) (e : Eff)
  | skip (e : Eff)
  | guard (c : E) (s : SV) (e : Eff)
  | alt (c : E) (s : SV) (e : Eff) (s' : SV) (e' : Eff)
  | call (g : Nat) (ks : List K) (as : List E) (rk : List K)
  | valN (s : SV) (bs : List OB)
  | callO (g : Nat) (ks : List K) (as : List E) (rk : List K) (ids : List Nat)

def SV.ex : SV → Option E
  | .sc e => some e
  | .gro _ e => some e
  | _ => none
def exs : List SV → Option (List E)
  | [] => some []
  | s :: ss => match s.ex, exs ss with
    | some e, some es => some (e :: es)
    | _, _ => none
def constSV : Value → SV
  | .bool b => .sc (.b b)
  | .int k n => .sc (.n k n)
  | .string s => .sc (.s s)
  | .slice none 0 0 => .nils
  | .pointer none => .pnil
  | _ => .un
def opv (t : List (Nat × SV)) : Operand → SV
  | .tmp i => look t i
  | .const v => constSV v
  | .func f => .fn f []
  | .global _ => .un
/-- A nil whose type is told. -/
def nilAs : Ty → SV → SV
  | .slc us, .nils => .sc (.lit us [])
  | _, s => s
def fillNil : List Ty → List SV → List SV
  | t :: ts, s :: ss => nilAs t s :: fillNil ts ss
  | _, ss => ss
def asSC (P : Program) (t : TypeId) (s : SV) : SV :=
  match s with
  | .nils => match tysOf P 8 t with
    | some [t'] => nilAs t' .nils
    | _ => .nils
  | .agg xs => match tysOf P 8 t with
    | some ts => .agg (fillNil ts xs)
    | none => .agg xs
  | s => s

mutual
def toArg (o : List OB) : SV → Option (K × List E)
  | .sc e => some (.one e.ty, [e])
  | .gro _ e => some (.one e.ty, [e])
  | .agg xs => (exs xs).map fun es => (.agg (es.map E.ty), es)
  | .rp cs => (exs cs).map fun es => (.ref (es.map E.ty), es)
  | .ptr id off => match o[id]? with
    | some (.box _ cs) => (exs (cs.drop off)).map fun es => (.ref (es.map E.ty), es)
    | _ => none
  | .fn g caps => (toArgs o caps).map fun x => (.clo g x.1, x.2)
  | _ => none
def toArgs (o : List OB) : List SV → Option (List K × List E)
  | [] => some ([], [])
  | s :: ss => match toArg o s, toArgs o ss with
    | some (k, es), some (ks, es') => some (k :: ks, es ++ es')
    | _, _ => none
end
/- Objects. -/
def CK.ngro : List CK → Nat
  | [] => 0
  | .gro _ _ :: r => CK.ngro r + 1
  | _ :: r => CK.ngro r
/-- The cells of an object, its data being variables from i on. 'self': its number; 'ids': its slices' numbers. -/
def ckCells (i self : Nat) (ids : List Nat) : List CK → List SV
  | [] => []
  | .un :: r => .un :: ckCells i self ids r
  | .pl t :: r => .sc (.v i t) :: ckCells (i + 1) self ids r
  | .gro _ ts :: r => .gro (ids.headD 0) (.v i (.slc ts)) :: ckCells (i + 1) self ids.tail r
  | .sp :: r => .sp self (.v i .bool) :: ckCells (i + 1) self ids r
def ckToks (i : Nat) : List CK → List OB
  | [] => []
  | .un :: r => ckToks i r
  | .pl _ :: r => ckToks (i + 1) r
  | .gro t ts :: r => .tok t ts.length (.v i (.slc ts)) :: ckToks (i + 1) r
  | .sp :: r => ckToks (i + 1) r
def K.nobs : K → Nat
  | .obj _ cks => CK.ngro cks + 1
  | _ => 0
def K.obs (i : Nat) (ids : List Nat) : K → List OB
  | .obj t cks => .box t (ckCells i (ids.headD 0) ids.tail cks) :: ckToks i cks
  | _ => []
/-- The objects of a list of arguments. 'all': the variables are those of all arguments. -/
def K.obss (all : Bool) (i : Nat) (ids : List Nat) : List K → List OB
  | [] => []
  | k :: ks => k.obs i (ids.take k.nobs) ++ K.obss all (i + (if all then k.tys else k.otys).length) (ids.drop k.nobs) ks
def K.nobss : List K → Nat
  | [] => 0
  | k :: ks => k.nobs + K.nobss ks
/-- What an object holds: its data, its slices' numbers. -/
def ckRead (o : List OB) (self : Nat) : List CK → List SV → Option (List E × List Nat)
  | [], [] => some ([], [])
  | .un :: r, _ :: ss => ckRead o self r ss
  | .pl t :: r, s :: ss => match (nilAs t s).ex, ckRead o self r ss with
    | some e, some (es, ids) => if e.ty.beq t then some (e :: es, ids) else none
    | _, _ => none
  | .gro t ts :: r, .gro id e :: ss => match o[id]?, ckRead o self r ss with
    | some (.tok t' sz cur), some (es, ids) => if e.beq cur && (e.ty.beq (.slc ts) && decide (sz = ts.length ∧ t' = t)) then some (e :: es, id :: ids) else none
    | _, _ => none
  | .sp :: r, .sp id e :: ss => match ckRead o self r ss with
    | some (es, ids) => if decide (id = self) && e.ty.beq .bool then some (e :: es, ids) else none
    | none => none
  | _, _ => none
def toObj (o : List OB) (t : Nat) (cks : List CK) : SV → Option (List E × List Nat)
  | .ptr id 0 => match o[id]? with
    | some (.box bt cs) => if bt = t then (ckRead o id cks cs).map fun x => (x.1, id :: x.2) else none
    | _ => none
  | _ => none
mutual
/-- The blocks that an argument only reads. -/
def SV.refs : SV → List Nat
  | .ptr id _ => [id]
  | .fn _ cs => SV.refss cs
  | _ => []
def SV.refss : List SV → List Nat
  | [] => []
  | s :: ss => s.refs ++ SV.refss ss
end
structure ArgsO where
  ks : List K
  es : List E
  ids : List Nat
  refs : List Nat
def toArgsO (o : List OB) : List (Option (Nat × List CK)) → List SV → Option ArgsO
  | _, [] => some ⟨[], [], [], []⟩
  | some (t, cks) :: os, s :: ss => match toObj o t cks s, toArgsO o os ss with
    | some (es, ids), some r => some ⟨.obj t cks :: r.ks, es ++ r.es, ids ++ r.ids, r.refs⟩
    | _, _ => none
  | os, s :: ss => match toArg o s, toArgsO o os.tail ss with
    | some (k, es), some r => some ⟨k :: r.ks, es ++ r.es, r.ids, s.refs ++ r.refs⟩
    | _, _ => none
def nodupB : List Nat → Bool
  | [] => true
  | x :: l => !l.contains x && nodupB l
def resSV (i : Nat) : K → SV
  | .one t => .sc (.v i t)
  | .agg ts => .agg (ts.mapIdx fun j t => .sc (.v (i + j) t))
  | _ => .un
def resSVs (i : Nat) : List K → List SV
  | [] => []
  | k :: ks => resSV i k :: resSVs (i + k.tys.length) ks
def resPacked (i : Nat) (ks : List K) : SV :=
  match resSVs i ks with
  | [s] => s
  | ss => .tup ss
def callable (P : Program) (g : Nat) : Bool :=
  match P.funcs[g]? with
  | some fn => fn.name != "runtime.NumGoroutine" && fn.body.isSome
  | none => false
def fieldOf (P : Program) (s : TypeId) (f : Nat) : Option Field :=
  match P.underlying s with
  | some (.struct fs) => fs[f]?
  | _ => none
def elemTy (P : Program) (t : TypeId) : Option TypeId :=
  match P.underlying t with
  | some (.slice e) => some e
  | _ => none

def cellsAt (P : Program) (t : TypeId) (cs : List SV) : Option SV :=
  if isAggB P t then if P.cellsOf t ≤ cs.length then some (.agg (cs.take (P.cellsOf t))) else none
  else cs.head?
def SV.parts : SV → List SV
  | .agg xs => xs
  | s => [s]
def zeroSV : Ty → SV
  | .slc _ => .nils
  | t => .sc (zeroE t)
/-- The cells of a type, as an object's. -/
def ckOf (P : Program) : Nat → TypeId → Option (List CK)
  | 0, _ => none
  | n + 1, t =>
    match P.underlying t with
    | some .bool => some [.pl .bool]
    | some (.int k) => some [.pl (.int k)]
    | some .string => some [.pl .str]
    | some (.slice e) => (tysOf P n e).map fun ts => [.gro e ts]
    | some (.pointer _) => some [.sp]
    | some (.struct fs) => (fs.toList.mapM fun f => ckOf P n f.type).map List.flatten
    | _ => none
/-- A new object of a type: its cells and its slices' tokens. -/
def zeroCK (self : Nat) : Nat → List CK → List Value → Option (List SV × List OB)
  | _, [], [] => some ([], [])
  | k, .pl t :: r, v :: vs => match zeroCK self k r vs with
    | some (cs, os) => if isZero t v then some (zeroSV t :: cs, os) else none
    | none => none
  | k, .gro t ts :: r, .slice none 0 0 :: vs => match zeroCK self (k + 1) r vs with
    | some (cs, os) => some (.gro k (.lit ts []) :: cs, .tok t ts.length (.lit ts []) :: os)
    | none => none
  | k, .sp :: r, .pointer none :: vs => match zeroCK self k r vs with
    | some (cs, os) => some (.sp self (.b false) :: cs, os)
    | none => none
  | _, _, _ => none

/-- Comparing two values of a type. -/
def eqFs (P : Program) (g : TypeId → List E → List E → Option E) (es fs : List E) : List Field → Option E
  | [] => some (.b true)
  | fd :: r =>
    if fd.name = "_" || !known P fd.type then none else
    match (if isAggB P fd.type then
        (if fd.offset + P.cellsOf fd.type ≤ es.length && decide (fd.offset + P.cellsOf fd.type ≤ fs.length) then
          g fd.type ((es.drop fd.offset).take (P.cellsOf fd.type)) ((fs.drop fd.offset).take (P.cellsOf fd.type)) else none)
      else match es[fd.offset]?, fs[fd.offset]? with
        | some e, some f => g fd.type [e] [f]
        | _, _ => none), eqFs P g es fs r with
    | some x, some y => some (.and x y)
    | _, _ => none
def eqT (P : Program) : Nat → TypeId → List E → List E → Option E
  | 0, _, _, _ => none
  | n + 1, t, es, fs => match P.underlying t, es, fs with
    | some .bool, [e], [f] => match e.ty, f.ty with
      | .bool, .bool => some (.bcmp false e f)
      | _, _ => none
    | some (.int _), [e], [f] => match e.ty, f.ty with
      | .int k, .int k' => if k = k' then some (.cmp .eql e f) else none
      | _, _ => none
    | some .string, [e], [f] => match e.ty, f.ty with
      | .str, .str => some (.scmp .eql e f)
      | _, _ => none
    | some (.struct _), es, fs => if P.stoodInHeld t then none else eqFs P (eqT P n) es fs (P.fieldsOf t).toList
    | _, _, _ => none

def capK (bytes : Nat) : Nat := 70368744177664 / (bytes + 1)
def zeroFits (i : TypeInfo) : Bool := match i.zero with
  | some z => z.cells.size == i.size
  | none => false
/-- Room for an append. -/
def roomE (bytes : Nat) (e f : E) : E :=
  .and (.cmp .leq (.len e) (.n .i64 (capK bytes))) (.cmp .leq (.len f) (.n .i64 (capK bytes)))
/-- What is appended. -/
def appSrc (P : Program) (u : TypeId) (d : TypeDesc) (y : SV) : Option E :=
  match d with
  | .slice _ => (asSC P u y).ex
  | .string => match y.ex with
    | some e => if e.ty.beq .str then some (.bytes e) else none
    | none => none
  | _ => none
def sxAppend (P : Program) (o : List OB) (t u : TypeId) (x y : SV) : OR :=
  match P.underlying t, P.underlying u with
  | some (.slice el), some d => match P.info? el, appSrc P u d y with
    | some i, some f => match f.ty with
      | .slc ts => if zeroFits i && decide (i.size = ts.length) then
          match x with
          | .nils => .guard (roomE i.bytes (.lit ts []) f) (.gro o.length (.appAll (.lit ts []) f)) (.push (.tok el ts.length (.appAll (.lit ts []) f)))
          | .gro id e => match o[id]? with
            | some (.tok t' sz cur) => if e.beq cur && e.ty.beq (.slc ts) && decide (sz = ts.length ∧ t' = el) then
                .guard (roomE i.bytes e f) (.gro id (.appAll e f)) (.set id (.tok t' sz (.appAll e f))) else .bad
            | _ => .bad
          | _ => .bad
        else .bad
      | _ => .bad
    | _, _ => .bad
  | _, _ => .bad

/-- The parts of a literal, one after the other. -/
def litRows (P : Program) (el : TypeId) (ts : List Ty) : Nat → List (Nat × SV) → Option (List (List E))
  | _, [] => some []
  | k, (i, s) :: r => if i = k then match exs (asSC P el s).parts, litRows P el ts (k + 1) r with
      | some es, some rows => if Ty.beqs (es.map E.ty) ts then some (es :: rows) else none
      | _, _ => none
    else none
/-- The parts of a struct. -/
def buildCells (places : List (Nat × Nat)) : List SV → List (Nat × SV) → Option (List SV)
  | cells, [] => some cells
  | cells, (i, s) :: r => match places[i]? with
    | some (off, size) => if s.parts.all SV.cellable && (s.parts.length == size && decide (off + size ≤ cells.length)) then
        buildCells places (cells.take off ++ s.parts ++ cells.drop (off + size)) r else none
    | none => none
def sliceG (z : E) (lo hi : E) : E := .and (.cmp .geq lo (.n .i64 0)) (.and (.cmp .leq lo hi) (.cmp .leq hi z))

def sxOp (P : Program) (sigs : Sigs) (σ : Sig) (o : Oper) : OR :=
  match o.op with
  | .move x | .assign x => .val (opv σ.t x) .keep
  | .pick c a b => match opv σ.t c with
    | .sc (.b true) => .val (opv σ.t a) .keep
    | .sc (.b false) => .val (opv σ.t b) .keep
    | .sc e => match e.ty, (asSC P o.type (opv σ.t a)).ex, (asSC P o.type (opv σ.t b)).ex with
      | .bool, some x, some y => if x.ty.beq y.ty then .val (.sc (.ite e x y)) .keep else .bad
      | _, _, _ => .bad
    | _ => .bad
  | .alloc t => if sigs.own.contains (o.dst.getD 1000000) then
      match (P.info? t).bind (·.zero), ckOf P 8 t with
      | some z, some cks => match zeroCK (σ.o.length + CK.ngro cks) σ.o.length cks z.cells.toList with
        | some (cs, os) => .valN (.ptr (σ.o.length + CK.ngro cks) 0) (os ++ [.box t cs])
        | none => .bad
      | _, _ => .bad
    else match (P.info? t).bind (·.zero), tysOf P 8 t with
    | some z, some ts => if areZero ts z.cells.toList then .val (.ptr σ.o.length 0) (.push (.box t (ts.map zeroSV))) else .bad
    | _, _ => .bad
  | .box t x => if (opv σ.t x).parts.all SV.cellable then .val (.ptr σ.o.length 0) (.push (.box t (opv σ.t x).parts)) else .bad
  | .load t x => if !known P t then .bad else
    match opv σ.t x with
    | .ptr id off => match σ.o[id]? with
      | some (.box _ cs) => match cellsAt P t (cs.drop off) with
        | some s => .val s .keep
        | none => .bad
      | _ => .bad
    | .rp cs => match cellsAt P t cs with
      | some s => .val s .keep
      | none => .bad
    | _ => .bad
  | .store t x y => if (P.info? t).isNone then .bad else
    match opv σ.t x with
    | .ptr id off => match σ.o[id]? with
      | some (.box bt cs) =>
        if (opv σ.t y).parts.all SV.cellable && (opv σ.t y).parts.length == P.cellsOf t && decide (off + (opv σ.t y).parts.length ≤ cs.length) then
          .skip (.set id (.box bt (cs.take off ++ (opv σ.t y).parts ++ cs.drop (off + (opv σ.t y).parts.length)))) else .bad
      | _ => .bad
    | _ => .bad
  | .nilCheck x => match opv σ.t x with
    | .ptr id off => .val (.ptr id off) .keep
    | .rp cs => .val (.rp cs) .keep
    | _ => .bad
  | .fieldAddr s x f => match fieldOf P s f with
    | some fd => if P.cellsOf fd.type = 0 || (P.info? fd.type).isNone then .bad else
      match opv σ.t x with
      | .ptr id off => .val (.ptr id (off + fd.offset)) .keep
      | .rp cs => .val (.rp (cs.drop fd.offset)) .keep
      | _ => .bad
    | none => .bad
  | .field s x f => match fieldOf P s f with
    | some fd => if !known P fd.type then .bad else
      match opv σ.t x with
      | .agg xs => if isAggB P fd.type then
          if fd.offset + P.cellsOf fd.type ≤ xs.length then .val (.agg ((xs.drop fd.offset).take (P.cellsOf fd.type))) .keep else .bad
        else match xs[fd.offset]? with
          | some s => .val s .keep
          | none => .bad
      | _ => .bad
    | none => .bad
  | .indexAddr t x i => match elemTy P t, (asSC P t (opv σ.t x)).ex, (opv σ.t i).ex with
    | some el, some e, some ei => match e.ty, ei.ty with
      | .slc ts, .int k => if P.cellsOf el = ts.length && (P.info? el).isSome then
          .guard (.and (.cmp .geq ei (.n k 0)) (.cmp .lss ei (.len e))) (.rp (ts.mapIdx fun j t => .sc (.cell e ei j t))) .keep else .bad
      | _, _ => .bad
    | _, _, _ => .bad
  | .index t x i => match P.underlying t, (opv σ.t x).ex, (opv σ.t i).ex with
    | some .string, some e, some ei => match e.ty, ei.ty with
      | .str, .int k => .guard (.and (.cmp .geq ei (.n k 0)) (.cmp .lss ei (.slen e))) (.sc (.byte e ei)) .keep
      | _, _ => .bad
    | _, _, _ => .bad
  | .binOp op xT x y _ => match (opv σ.t x).ex, (opv σ.t y).ex with
    | some e, some f => match e.ty, f.ty with
      | .int k, .int k' => if k = k' then match op with
          | .add | .sub | .mul => .val (.sc (.ar op k e f)) .keep
          | .quo | .rem => .guard (.cmp .neq f (.n k 0)) (.sc (.ar op k e f)) .keep
          | .eql | .neq | .lss | .leq | .gtr | .geq => .val (.sc (.cmp op e f)) .keep
          | _ => .bad
        else .bad
      | .str, .str => match op with
        | .add => .guard (.catOk e f) (.sc (.cat e f)) .keep
        | .eql | .neq | .lss | .leq | .gtr | .geq => .val (.sc (.scmp op e f)) .keep
        | _ => .bad
      | .bool, .bool => match P.underlying xT, op with
        | some .bool, .eql => .val (.sc (.bcmp false e f)) .keep
        | some .bool, .neq => .val (.sc (.bcmp true e f)) .keep
        | _, _ => .bad
      | _, _ => .bad
    | some e, none => match opv σ.t y, e.ty, op, P.underlying xT with
      | .nils, .slc _, .eql, some (.slice _) => .val (.mayB (.cmp .eql (.len e) (.n .i64 0))) .keep
      | _, _, _, _ => .bad
    | _, _ => match opv σ.t x, opv σ.t y with
      | .sp _ e, .pnil => match op, P.underlying xT with
        | .eql, some (.pointer _) => .val (.sc (.not e)) .keep
        | _, _ => .bad
      | .nils, .nils => match op, P.underlying xT with
        | .eql, some (.slice _) => .val (.sc (.b true)) .keep
        | _, _ => .bad
      | .agg xs, .agg ys => match exs xs, exs ys with
        | some es, some fs => match P.underlying xT, eqT P 8 xT es fs with
          | some (.struct _), some q => if P.eqGuardType P.depth xT then .bad else match op with
            | .eql => .val (.sc q) .keep
            | .neq => .val (.sc (.not q)) .keep
            | _ => .bad
          | _, _ => .bad
        | _, _ => .bad
      | _, _ => .bad
  | .unOp op _ x => match (opv σ.t x).ex with
    | some e => match e.ty, op with
      | .bool, .not => .val (.sc (.not e)) .keep
      | .int k, .neg => .val (.sc (.neg k e)) .keep
      | _, _ => .bad
    | none => .bad
  | .convert src dst x => match P.underlying src, P.underlying dst, (opv σ.t x).ex with
    | some _, some (.int k), some e => match e.ty with
      | .int _ => .val (.sc (.conv k e)) .keep
      | _ => .bad
    | _, _, _ => .bad
  | .extract x i => match opv σ.t x with
    | .tup xs => match xs[i]? with
      | some s => .val s .keep
      | none => .bad
    | _ => .bad
  | .makeFunc (.func g) first captured => if first.isEmpty then .val (.fn g (captured.toList.map (opv σ.t))) .keep else .bad
  | .build t ps => match P.info? t, P.underlying t, tysOf P 8 t with
    | some it, some (.struct fs), some ts => match it.zero, fs.toList.mapM (fun f => (P.info? f.type).map fun i => (f.offset, i.size)) with
      | some z, some places => if areZero ts z.cells.toList then
          match buildCells places (ts.map zeroSV) (ps.toList.map fun x => (x.1, opv σ.t x.2)) with
          | some cells => .val (.agg cells) .keep
          | none => .bad
        else .bad
      | _, _ => .bad
    | _, _, _ => .bad
  | .buildSlice t n ps => match elemTy P t with
    | some el => match P.info? el, tysOf P 8 el with
      | some i, some ts => if decide (i.size = ts.length) && (i.zero.isSome && (decide (n * i.size ≤ 16777216) && decide (0 < ts.length))) then
          if n = 0 && ps.size = 0 then .val (.gro σ.o.length (.lit ts [])) (.push (.tok el ts.length (.lit ts []))) else
          match litRows P el ts 0 (ps.toList.map fun x => (x.1, opv σ.t x.2)) with
          | some rows => if rows.length = n then .val (.sc (.lit ts rows)) .keep else .bad
          | none => .bad
        else .bad
      | _, _ => .bad
    | none => .bad
  | .makeSlice t l c => match elemTy P t, opv σ.t l, (opv σ.t c).ex with
    | some el, .sc (.n _ 0), some e => match P.info? el, tysOf P 8 el, e.ty with
      | some i, some ts, .int .i64 => if decide (i.size = ts.length) && i.zero.isSome then
          .guard (.and (.cmp .geq e (.n .i64 0)) (.cmp .leq e (.n .i64 (capK i.bytes)))) (.gro σ.o.length (.lit ts [])) (.push (.tok el ts.length (.lit ts []))) else .bad
      | _, _, _ => .bad
    | _, _, _ => .bad
  | .range t x => match P.underlying t, (opv σ.t x).ex with
    | some .string, some e => match e.ty with
      | .str => .val (.ptr σ.o.length 0) (.push (.iter e (.n .i64 0)))
      | _ => .bad
    | _, _ => .bad
  | .next x true => match opv σ.t x with
    | .ptr id 0 => match σ.o[id]? with
      | some (.iter e p) => if !p.ty.beq (.int .i64) then .bad else .alt (.cmp .lss p (.slen e)) (.tup [.sc (.b true), .sc p, .sc (.rune e p)]) (.set id (.iter e (.rnext e p))) (.tup [.sc (.b false)]) .keep
      | _ => .bad
    | _ => .bad
  | .slice t x lo hi mx => if mx.isSome then .bad else
    match P.underlying t, (asSC P t (opv σ.t x)).ex with
    | some u, some e =>
      let l : Option E := match lo with
        | none => some (.n .i64 0)
        | some z => (opv σ.t z).ex
      match u, e.ty with
      | .string, .str => match l, (match hi with | none => some (E.slen e) | some z => (opv σ.t z).ex) with
        | some l, some h => match l.ty, h.ty with
          | .int .i64, .int .i64 => .guard (sliceG (.slen e) l h) (.sc (.ssub e l h)) .keep
          | _, _ => .bad
        | _, _ => .bad
      | .slice el, .slc ts => match l, (match hi with | none => some (E.len e) | some z => (opv σ.t z).ex) with
        | some l, some h => match l.ty, h.ty with
          | .int .i64, .int .i64 => if (P.info? el).isSome && decide (P.cellsOf el = ts.length) then .guard (sliceG (.len e) l h) (.sc (.cut e l h)) .keep else .bad
          | _, _ => .bad
        | _, _ => .bad
      | _, _ => .bad
    | _, _ => .bad
  | .call c => match c.callee with
    | .value f => match opv σ.t f with
      | .fn g caps => if callable P g then
          match sigs.ob.find? (·.1 = g) with
          | some (_, os) => match toArgsO σ.o os (c.args.toList.zipIdx.map (fun x => asSC P (c.argTypes.getD x.2 0) (opv σ.t x.1)) ++ caps), sigs.fs.find? (·.1 = g) with
            | some r, some (_, rk) => if nodupB r.ids && r.ids.all (fun i => !r.refs.contains i) then .callO g r.ks r.es rk r.ids else .bad
            | _, _ => .bad
          | none => match toArgs σ.o (c.args.toList.zipIdx.map (fun x => asSC P (c.argTypes.getD x.2 0) (opv σ.t x.1)) ++ caps), sigs.fs.find? (·.1 = g) with
          | some (ks, es), some (_, rk) => .call g ks es rk
          | _, _ => .bad
        else .bad
      | _ => .bad
    | .builtin .len => match c.args.toList, c.argTypes[0]? with
      | [x], some t => match (asSC P t (opv σ.t x)).ex, P.underlying t with
        | some e, some u => match e.ty, u with
          | .str, .string => .val (.sc (.slen e)) .keep
          | .slc _, .slice _ => .val (.sc (.len e)) .keep
          | _, _ => .bad
        | _, _ => .bad
      | _, _ => .bad
    | .builtin .max => match c.args.toList with
      | [x, y] => match (opv σ.t x).ex, (opv σ.t y).ex with
        | some e, some f => match e.ty, f.ty with
          | .int k, .int k' => if k = k' then .val (.sc (.ite (.cmp .gtr f e) f e)) .keep else .bad
          | _, _ => .bad
        | _, _ => .bad
      | _ => .bad
    | .builtin .min => match c.args.toList with
      | [x, y] => match (opv σ.t x).ex, (opv σ.t y).ex with
        | some e, some f => match e.ty, f.ty with
          | .int k, .int k' => if k = k' then .val (.sc (.ite (.cmp .lss f e) f e)) .keep else .bad
          | _, _ => .bad
        | _, _ => .bad
      | _ => .bad
    | .builtin .append => match c.args.toList, c.argTypes.toList with
      | [x, y], [t, u] => sxAppend P σ.o t u (opv σ.t x) (opv σ.t y)
      | _, _ => .bad
    | _ => .bad
  | _ => .bad

/-! ### 6. Control -/
inductive SI where
  | code (p : List Nat) | inBlock (id : Nat) | inLoop (p : List Nat) | reg (p : List Nat) (is : List Nat)
  deriving Inhabited, DecidableEq
def child : Nat → Code → Option Code
  | 0, .seq a _ => some a
  | 1, .seq _ b => some b
  | 0, .cond _ a _ => some a
  | 1, .cond _ _ b => some b
  | 0, .block _ c => some c
  | 0, .loop c => some c
  | _, _ => none
def sub (c0 : Code) : List Nat → Option Code
  | [] => some c0
  | i :: p => (sub c0 p).bind (child i)
def exitSI (id : Nat) : List SI → Option (List SI)
  | .inBlock id' :: k => if id' == id then some k else exitSI id k
  | _ :: k => exitSI id k
  | [] => none

def exN (t : Ty) (s : SV) : Option E := (nilAs t s).ex
def toRes (rk : List K) (ss : List SV) : Option (List E) :=
  match rk, ss with
  | [], [] => some []
  | .one t :: rk, s :: ss => match exN t s, toRes rk ss with
    | some e, some es => if e.ty.beq t then some (e :: es) else none
    | _, _ => none
  | .unk :: rk, _ :: ss => toRes rk ss
  | .agg ts :: rk, .agg xs :: ss => match exs (fillNil ts xs), toRes rk ss with
    | some es, some es' => if Ty.beqs (es.map E.ty) ts then some (es ++ es') else none
    | _, _ => none
  | _, _ => none
/-- What a call hands back. -/
def resVals (P : Program) (σ : Sig) : List ResultVar → Option (List SV)
  | [] => some []
  | .tmp t :: r => (resVals P σ r).map (look σ.t t :: ·)
  | .cell a ty :: r => if !known P ty then none else match look σ.t a with
    | .ptr id off => match σ.o[id]? with
      | some (.box _ cs) => match cellsAt P ty (cs.drop off), resVals P σ r with
        | some s, some ss => some (s :: ss)
        | _, _ => none
      | _ => none
    | _ => none

/-- A block: where it stands, what is known there. Its variables are its parameters. -/
structure Blk where
  st : List SI
  σ : Sig
  tys : List Ty
  deriving Inhabited
structure Ctx where
  P : Program
  L : Lay
  fn : Func
  c0 : Code
  sigs : Sigs
  ks : List K
  rk : List K
  cuts : List (Nat × Nat)    -- a region's number, the block that begins there
  blks : List Blk

/-- What the objects hold in the end. -/
def objEnd (o : List OB) (k : Nat) : List K → Option (List E)
  | [] => some []
  | .obj t cks :: ks => match toObj o t cks (.ptr k 0), objEnd o (k + (CK.ngro cks + 1)) ks with
    | some (es, ids), some es' => if ids = List.range' k (CK.ngro cks + 1) then some (es ++ es') else none
    | _, _ => none
  | _ :: ks => objEnd o k ks
def retT (C : Ctx) (σ : Sig) : Option T :=
  match resVals C.P σ C.fn.results.toList with
  | some ss => match toRes C.rk ss, objEnd σ.o 0 C.ks with
    | some es, some es' => some (.ret (es ++ es'))
    | _, _ => none
  | none => none

mutual
/- Reads a block's arguments off the state. 'm': own blocks of the block that begins; 'cur': of the state. -/
def readSV (m cur : Nat) (s tm : SV) : Option (List (Nat × E)) :=
  match tm, s with
  | .un, _ => some []
  | .nils, .nils => some []
  | .sc (.v i t), s => match exN t s with
    | some e => if e.ty.beq t then some [(i, e)] else none
    | none => none
  | .sc (.b x), .sc (.b y) => if x = y then some [] else none
  | .sc (.n k x), .sc (.n k' y) => if x = y ∧ k = k' then some [] else none
  | .agg ts, .agg ss => readSVs m cur ss ts
  | .rp ts, .rp ss => readSVs m cur ss ts
  | .ptr id off, .ptr id' off' => if id = id' ∧ off = off' ∧ id < m then some [] else none
  | .fn g ts, .fn g' ss => if g = g' then readSVs m cur ss ts else none
  | .gro id (.v i t), .gro id' e => if decide (id = id') && (decide (id < m) && e.ty.beq t) then some [(i, e)] else none
  | .sp id (.v i .bool), .sp id' e => if decide (id = id') && (decide (id < m) && e.ty.beq .bool) then some [(i, e)] else none
  | .gro id (.v i (.slc us)), .nils => if decide (cur ≤ id) && decide (id < m) then some [(i, .lit us [])] else none
  | _, _ => none
def readSVs (m cur : Nat) (ss tms : List SV) : Option (List (Nat × E)) :=
  match tms, ss with
  | [], [] => some []
  | tm :: tms, s :: ss => match readSV m cur s tm, readSVs m cur ss tms with
    | some a, some b => some (a ++ b)
    | _, _ => none
  | _, _ => none
end

def readOBs (m cur : Nat) : List OB → List OB → Option (List (Nat × E))
  | _, [] => some []
  | .box t cs :: r, .box t' tm :: rt => match readSVs m cur cs tm, readOBs m cur r rt with
    | some a, some b => if t = t' then some (a ++ b) else none
    | _, _ => none
  | .iter e p :: r, .iter (.v i .str) (.v j (.int .i64)) :: rt => if e.ty.beq .str && p.ty.beq (.int .i64) then (readOBs m cur r rt).map fun z => (i, e) :: (j, p) :: z else none
  | .tok tt sz e :: r, .tok tt' sz' (.v i t) :: rt => if decide (sz = sz' ∧ tt = tt') && e.ty.beq t then (readOBs m cur r rt).map ((i, e) :: ·) else none
  | [], .tok _ _ (.v i (.slc us)) :: rt => (readOBs m cur [] rt).map ((i, .lit us []) :: ·)
  | _, _ => none
def readTs (m cur : Nat) (t : List (Nat × SV)) : List (Nat × SV) → Option (List (Nat × E))
  | [] => some []
  | (i, tm) :: r => match readSV m cur (look t i) tm, readTs m cur t r with
    | some a, some b => some (a ++ b)
    | _, _ => none
/-- One expression a number. -/
def single : List (Nat × E) → List (Nat × E) → Option (List (Nat × E))
  | acc, [] => some acc
  | acc, (i, e) :: r => match acc.find? (·.1 = i) with
    | some (_, e') => if e.beq e' then single acc r else none
    | none => single ((i, e) :: acc) r
def argList (z : List (Nat × E)) : Nat → List Ty → Option (List E)
  | _, [] => some []
  | k, t :: ts => match z.find? (·.1 = k), argList z (k + 1) ts with
    | some (_, e), some es => if e.ty.beq t then some (e :: es) else none
    | _, _ => none
/-- The arguments of a jump. -/
def jumpArgs (σ : Sig) (b : Blk) : Option (List E) :=
  match readTs b.σ.o.length σ.o.length σ.t b.σ.t, readOBs b.σ.o.length σ.o.length σ.o b.σ.o with
  | some x, some y => match single [] (x ++ y) with
    | some z => if z.all fun p => p.1 < b.tys.length then argList z 0 b.tys else none
    | none => none
  | _, _ => none

def boolE (s : SV) : Option E :=
  match s.ex with
  | some e => match e.ty with
    | .bool => some e
    | _ => none
  | none => none
def putS (n : Nat) (σ : Sig) (dst : Option Nat) (s : SV) (o : List OB) : Option Sig :=
  match dst with
  | some d => if d < n then some { t := (d, s) :: σ.t, o } else none
  | none => some { t := σ.t, o }

/-! Regions whose order is drawn. -/
mutual
def SV.ids : SV → List Nat
  | .ptr id _ => [id]
  | .gro id _ => [id]
  | .fn _ cs => SV.idss cs
  | _ => []
def SV.idss : List SV → List Nat
  | [] => []
  | s :: ss => s.ids ++ SV.idss ss
end
def looksO : Op → Bool
  | .load .. | .store .. | .call _ | .next .. => true
  | _ => false
def slotsOf (o : Oper) : List Nat := o.op.operands.toList.filterMap fun | .tmp t => some t | _ => none
structure Lab where
  rd : List Nat
  wr : List Nat
  nw : List Nat
def effOf : OR → Eff
  | .val _ e | .skip e | .guard _ _ e => e
  | _ => .keep
def rdIds (t : List (Nat × SV)) (o : Oper) : List Nat := if looksO o.op then o.op.operands.toList.flatMap fun x => (opv t x).ids else []
def Eff.wr : Eff → List Nat
  | .set id _ => [id]
  | .sets ids _ => ids
  | _ => []
def wrOf : OR → List Nat
  | .callO _ _ _ _ ids => ids
  | r => (effOf r).wr
def labOf (P : Program) (sigs : Sigs) (σ : Sig) (o : Oper) : Lab :=
  { rd := rdIds σ.t o
    wr := wrOf (sxOp P sigs σ o)
    nw := match effOf (sxOp P sigs σ o) with | .push _ => [σ.o.length] | _ => [] }
def Lab.clash (a b : Lab) : Bool :=
  a.wr.any (fun x => b.rd.contains x || b.wr.contains x) || b.wr.any (fun x => a.rd.contains x) ||
  a.nw.any (fun x => b.rd.contains x || b.wr.contains x) || b.nw.any (fun x => a.rd.contains x || a.wr.contains x) || (!a.nw.isEmpty && !b.nw.isEmpty)
def guardSlot (ops : Array Oper) (o : Oper) : List Nat :=
  match o.guard with
  | some (j, _) => ((ops[j]?).bind (·.dst)).toList
  | none => []
/-- Two operations that must not change places. -/
def slotClash (ops : Array Oper) (x y : Oper) : Bool :=
  (match x.dst with | some d => (slotsOf y).contains d || (guardSlot ops y).contains d || y.dst == some d | none => false) ||
  (match y.dst with | some d => (slotsOf x).contains d || (guardSlot ops x).contains d | none => false)
def bound (o : Oper) (j : Nat) : Bool := o.after.any fun e => Region.binds .any e && e.on == j
/-- Bound to come behind, in up to n steps. -/
def reach (ops : Array Oper) : Nat → Oper → Nat → Bool
  | 0, _, _ => false
  | n + 1, o, j => bound o j || o.after.any fun e => Region.binds .any e && (match ops[e.on]? with | some o' => reach ops n o' j | none => false)
def isGuard (ops : Array Oper) (i : Nat) : Bool := ops.any fun o => match o.guard with | some (j, _) => j == i | none => false
def edgesOk (ops : Array Oper) : Bool := ops.toList.zipIdx.all fun (o, i) => o.after.all fun e => !Region.binds .any e || decide (e.on < i)
/-- What has been noted lets every order do. -/
def okDraw (ops : Array Oper) (labs : List Lab) : Bool :=
  edgesOk ops && (labs.length == ops.size && (ops.toList.zip labs).zipIdx.all fun ((oj, lj), j) => ((ops.toList.zip labs).zipIdx.take j).all fun ((oi, li), i) =>
    !(slotClash ops oi oj || li.clash lj) || reach ops 3 oj i)

/-- A result put away; one on which others hang parts the ways at once. -/
def sxPut (C : Ctx) (ops : Array Oper) (next : Sig → Nat → Lab → Option T) (σ : Sig) (i : Nat) (o : Oper) (s : SV) (e : Eff) (nv' : Nat) (lab : Lab) : Option T :=
  if isGuard ops i then match boolE s with
    | some q => if q.bd nv' then
        match putS C.fn.ntmps σ o.dst (.sc (.b true)) (e.app σ.o), putS C.fn.ntmps σ o.dst (.sc (.b false)) (e.app σ.o) with
        | some σt, some σf => match q with
          | .b true => next σt nv' lab
          | .b false => next σf nv' lab
          | q => match next σt nv' lab, next σf nv' lab with
            | some t, some f => some (.ite q t f)
            | _, _ => none
        | _, _ => none
      else none
    | none => none
  else match putS C.fn.ntmps σ o.dst s (e.app σ.o) with
    | some σ' => next σ' nv' lab
    | none => none
def sxPerf (C : Ctx) (ops : Array Oper) (next : Sig → Nat → Lab → Option T) (σ : Sig) (nv i : Nat) (o : Oper) : Option T :=
  match sxOp C.P C.sigs σ o with
  | .bad => none
  | .val s e => sxPut C ops next σ i o s e nv (labOf C.P C.sigs σ o)
  | .skip e => sxPut C ops next σ i o .un e nv (labOf C.P C.sigs σ o)
  | .alt .. | .valN .. => none
  | .callO g ks as rk ids => if E.bds nv as && K.nobss ks != 0 then (sxPut C ops next σ i o (resPacked nv rk) (.sets ids (K.obss false (nv + (K.tyss rk).length) ids ks)) (nv + (K.rts ks rk).length) (labOf C.P C.sigs σ o)).map (.call g ks as rk) else none
  | .guard c s e => if c.bd nv then (sxPut C ops next σ i o s e nv (labOf C.P C.sigs σ o)).map (.guard c) else none
  | .call g ks as rk => if E.bds nv as && K.nobss ks == 0 then (sxPut C ops next σ i o (resPacked nv rk) .keep (nv + (K.rts ks rk).length) (labOf C.P C.sigs σ o)).map (.call g ks as rk) else none
def sxPass (C : Ctx) (next : Sig → Nat → Lab → Option T) (σ : Sig) (nv : Nat) (o : Oper) : Option T :=
  match putS C.fn.ntmps σ o.dst .und σ.o with
  | some σ' => next σ' nv ⟨[], [], []⟩
  | none => none
def sxD (C : Ctx) (ops : Array Oper) (kont : Sig → Nat → List Lab → Option T) : List Nat → Sig → Nat → List Lab → Option T
  | [], σ, nv, labs => kont σ nv labs
  | i :: is, σ, nv, labs =>
    match ops[i]? with
    | none => none
    | some o =>
      match o.guard with
      | none => sxPerf C ops (fun σ' nv' lab => sxD C ops kont is σ' nv' (labs ++ [lab])) σ nv i o
      | some (j, b) => match (ops[j]?).bind (·.dst) with
        | some d => if C.fn.ntmps ≤ d then none else match look σ.t d with
          | .sc (.b x) => if x = b then sxPerf C ops (fun σ' nv' lab => sxD C ops kont is σ' nv' (labs ++ [lab])) σ nv i o
            else sxPass C (fun σ' nv' lab => sxD C ops kont is σ' nv' (labs ++ [lab])) σ nv o
          | .und => sxPass C (fun σ' nv' lab => sxD C ops kont is σ' nv' (labs ++ [lab])) σ nv o
          | _ => none
        | none => none

def sx (C : Ctx) : Nat → Bool → List SI → Sig → Nat → Option T
  | 0, _, _, _, _ => none
  | n + 1, first, st, σ, nv =>
    match st with
    | [] => retT C σ
    | .inBlock _ :: k => sx C n false k σ nv
    | .inLoop p :: k => sx C n false (.code (0 :: p) :: .inLoop p :: k) σ nv
    | .code p :: k =>
      match sub C.c0 p with
      | some .skip => sx C n false k σ nv
      | some (.seq _ _) => sx C n false (.code (0 :: p) :: .code (1 :: p) :: k) σ nv
      | some (.cond c _ _) => match opv σ.t c with
        | .sc (.b true) => sx C n false (.code (0 :: p) :: k) σ nv
        | .sc (.b false) => sx C n false (.code (1 :: p) :: k) σ nv
        | .mayB e => match sx C n false (.code (0 :: p) :: k) σ nv, sx C n false (.code (1 :: p) :: k) σ nv with
          | some t, some f => some (.may e t f)
          | _, _ => none
        | s => match boolE s, sx C n false (.code (0 :: p) :: k) σ nv, sx C n false (.code (1 :: p) :: k) σ nv with
          | some e, some t, some f => some (.ite e t f)
          | _, _, _ => none
      | some (.block id _) => sx C n false (.code (0 :: p) :: .inBlock id :: k) σ nv
      | some (.loop _) => sx C n false (.code (0 :: p) :: .inLoop p :: k) σ nv
      | some (.exit id) => match exitSI id k with
        | some k' => sx C n false k' σ nv
        | none => none
      | some .ret => retT C σ
      | some (.refuse _) => some .dead
      | some (.region id ops draw) =>
        match (if first then none else (C.cuts.find? fun x => x.1 = id)) with
        | some (_, l) => match C.blks[l]? with
          | some b => if b.st = st && Nat.ble (K.nobss C.ks) b.σ.o.length then (jumpArgs σ b).map (.jump l) else none
          | none => none
        | none =>
          if draw then sxD C ops (fun σ' nv' labs => if okDraw ops labs then sx C n false k σ' nv' else none) (List.range ops.size) σ nv []
          else sx C n false (.reg p (List.range ops.size) :: k) σ nv
      | _ => none
    | .reg _ [] :: k => sx C n false k σ nv
    | .reg p (i :: is) :: k =>
      match sub C.c0 p with
      | some (.region _ ops _) => match ops[i]? with
        | none => none
        | some o =>
          let perform : Unit → Option T := fun _ => match sxOp C.P C.sigs σ o with
            | .bad => some .dead
            | .val s e => match putS C.fn.ntmps σ o.dst s (e.app σ.o) with
              | some σ' => sx C n false (.reg p is :: k) σ' nv
              | none => none
            | .valN s bs => match putS C.fn.ntmps σ o.dst s (σ.o ++ bs) with
              | some σ' => sx C n false (.reg p is :: k) σ' nv
              | none => none
            | .skip e => match putS C.fn.ntmps σ o.dst .un (e.app σ.o) with
              | some σ' => sx C n false (.reg p is :: k) σ' nv
              | none => none
            | .guard c s e => match putS C.fn.ntmps σ o.dst s (e.app σ.o) with
              | some σ' => (sx C n false (.reg p is :: k) σ' nv).map (.guard c)
              | none => none
            | .alt c s e s' e' => match putS C.fn.ntmps σ o.dst s (e.app σ.o), putS C.fn.ntmps σ o.dst s' (e'.app σ.o) with
              | some σ1, some σ2 => match sx C n false (.reg p is :: k) σ1 nv, sx C n false (.reg p is :: k) σ2 nv with
                | some t, some f => some (.ite c t f)
                | _, _ => none
              | _, _ => none
            | .call g ks as rk => if K.nobss ks != 0 then none else match putS C.fn.ntmps σ o.dst (resPacked nv rk) σ.o with
              | some σ' => (sx C n false (.reg p is :: k) σ' (nv + (K.rts ks rk).length)).map (.call g ks as rk)
              | none => none
            | .callO g ks as rk ids => if K.nobss ks == 0 then none else match putS C.fn.ntmps σ o.dst (resPacked nv rk) (setAll σ.o ids (K.obss false (nv + (K.tyss rk).length) ids ks)) with
              | some σ' => (sx C n false (.reg p is :: k) σ' (nv + (K.rts ks rk).length)).map (.call g ks as rk)
              | none => none
          match o.guard with
          | none => perform ()
          | some (j, b) => match (ops[j]?).bind (·.dst) with
            | some d => if C.fn.ntmps ≤ d then none else match look σ.t d with
              | .sc (.b x) => if x = b then perform () else
                match putS C.fn.ntmps σ o.dst .und σ.o with
                | some σ' => sx C n false (.reg p is :: k) σ' nv
                | none => none
              | .und => match putS C.fn.ntmps σ o.dst .und σ.o with
                | some σ' => sx C n false (.reg p is :: k) σ' nv
                | none => none
              | s => match boolE s, sx C n false st { σ with t := (d, .sc (.b true)) :: σ.t } nv, sx C n false st { σ with t := (d, .sc (.b false)) :: σ.t } nv with
                | some e, some t, some f => some (.ite e t f)
                | _, _, _ => none
            | none => none
      | _ => none
end Fw
