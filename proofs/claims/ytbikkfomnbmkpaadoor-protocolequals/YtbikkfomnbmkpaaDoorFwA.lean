import Derived.Below
import Derived.Deep.Draws
import Derived.Calls
import Derived.Laws.World
import Derived.Laws.Sem
import Derived.WalkKit
import Derived.KernelRfl
import GoSem.Core.Utf8
namespace Fw
open Go Go.RowKit

/-! ### 1. Data, expressions, trees -/
inductive Ty where
  | bool | int (k : IntKind) | str | slc (cells : List Ty)
  deriving Inhabited, Repr

inductive D where
  | bool (b : Bool) | int (k : IntKind) (n : Int) | str (s : ByteArray) | slc (es : List (List D))
  deriving Inhabited

def D.toI : D → Int | .int _ n => n | _ => 0
def D.toB : D → Bool | .bool b => b | _ => false
def D.toS : D → ByteArray | .str s => s | _ => ByteArray.empty
def D.toL : D → List (List D) | .slc es => es | _ => []

abbrev Env := List D

inductive E where
  | v (i : Nat) (t : Ty)
  | b (x : Bool)
  | n (k : IntKind) (x : Int)
  | s (x : ByteArray)
  | ar (o : BinOp) (k : IntKind) (x y : E)
  | cmp (o : BinOp) (x y : E)
  | scmp (o : BinOp) (x y : E)
  | bcmp (neg : Bool) (x y : E)
  | cat (x y : E)
  | ssub (x lo hi : E)
  | byte (x i : E)
  | not (x : E)
  | neg (k : IntKind) (x : E)
  | conv (k : IntKind) (x : E)
  | slen (x : E)
  | len (x : E)
  | cell (x i : E) (off : Nat) (t : Ty)
  | cut (x lo hi : E)
  | lit (ts : List Ty) (es : List (List E))
  | app (x : E) (es : List E)
  | appAll (x y : E)
  | ite (c x y : E)
  | rep (ts : List Ty) (n : E) (zero : List E)
  | upd (x i : E) (off : Nat) (y : E)
  | and (x y : E)
  | catOk (x y : E)
  | rune (x p : E)
  | rnext (x p : E)
  | bytes (x : E)
  deriving Inhabited

def E.ty : E → Ty
  | .v _ t => t
  | .b _ | .cmp .. | .scmp .. | .bcmp .. | .not _ | .and .. | .catOk .. => .bool
  | .n k _ | .ar _ k _ _ | .neg k _ | .conv k _ => .int k
  | .s _ | .cat .. | .ssub .. => .str
  | .byte .. => .int .u8
  | .slen _ | .len _ | .rnext .. => .int .i64
  | .rune .. => .int .i32
  | .cell _ _ _ t => t
  | .cut x _ _ | .app x _ | .appAll x _ | .upd x _ _ _ => x.ty
  | .ite _ x _ => x.ty
  | .lit ts _ | .rep ts _ _ => .slc ts
  | .bytes _ => .slc [.int .u8]

def arD (o : BinOp) (k : IntKind) (x y : Int) : Int :=
  match o with
  | .add => k.wrap (x + y)
  | .sub => k.wrap (x - y)
  | .mul => k.wrap (x * y)
  | .quo => k.wrap (x.tdiv y)
  | .rem => x.tmod y
  | _ => 0
def cmpD (o : BinOp) (x y : Int) : Bool :=
  match o with
  | .eql => x == y
  | .neq => x != y
  | .lss => decide (x < y)
  | .leq => decide (x ≤ y)
  | .gtr => decide (x > y)
  | .geq => decide (x ≥ y)
  | _ => false
def scmpD (o : BinOp) (x y : ByteArray) : Bool :=
  let eq := x.toList == y.toList
  let lt := Op.bytesLess x.toList y.toList
  match o with
  | .eql => eq
  | .neq => !eq
  | .lss => lt
  | .leq => lt || eq
  | .gtr => !(lt || eq)
  | .geq => !lt
  | _ => false
def byteD (s : ByteArray) (i : Int) : Int := ((s[i.toNat]?).map fun b : UInt8 => (b.toNat : Int)).getD 0
def updD (es : List (List D)) (i off : Nat) (y : D) : List (List D) := es.modify i fun c => c.set off y

mutual
def E.den (η : Env) : E → D
  | .v i _ => η.getD i default
  | .b x => .bool x
  | .n k x => .int k x
  | .s x => .str x
  | .ar o k x y => .int k (arD o k (x.den η).toI (y.den η).toI)
  | .cmp o x y => .bool (cmpD o (x.den η).toI (y.den η).toI)
  | .scmp o x y => .bool (scmpD o (x.den η).toS (y.den η).toS)
  | .bcmp ng x y => .bool (((x.den η).toB == (y.den η).toB) != ng)
  | .cat x y => .str ((x.den η).toS ++ (y.den η).toS)
  | .ssub x lo hi => .str ((x.den η).toS.extract (lo.den η).toI.toNat (hi.den η).toI.toNat)
  | .byte x i => .int .u8 (byteD (x.den η).toS (i.den η).toI)
  | .not x => .bool (!(x.den η).toB)
  | .neg k x => .int k (k.wrap (0 - (x.den η).toI))
  | .conv k x => .int k (k.wrap (x.den η).toI)
  | .slen x => .int .i64 (x.den η).toS.size
  | .len x => .int .i64 (x.den η).toL.length
  | .cell x i off _ => (((x.den η).toL.getD (i.den η).toI.toNat []).getD off default)
  | .cut x lo hi => .slc (((x.den η).toL.take (hi.den η).toI.toNat).drop (lo.den η).toI.toNat)
  | .lit _ es => .slc (E.denss η es)
  | .app x es => .slc ((x.den η).toL ++ [E.dens η es])
  | .appAll x y => .slc ((x.den η).toL ++ (y.den η).toL)
  | .ite c x y => if (c.den η).toB then x.den η else y.den η
  | .rep _ m zero => .slc (List.replicate (m.den η).toI.toNat (E.dens η zero))
  | .upd x i off y => .slc (updD (x.den η).toL (i.den η).toI.toNat off (y.den η))
  | .and x y => .bool ((x.den η).toB && (y.den η).toB)
  | .bytes x => .slc ((x.den η).toS.data.toList.map fun b => [.int .u8 b.toNat])
  | .rune x p => .int .i32 (Utf8.decode (x.den η).toS (p.den η).toI.toNat).1
  | .rnext x p => .int .i64 ((p.den η).toI.toNat + (Utf8.decode (x.den η).toS (p.den η).toI.toNat).2 : Nat)
  | .catOk x y => .bool (decide ((((x.den η).toS.size + (y.den η).toS.size : Nat) : Int) ≤ 9223372036854775807))
def E.dens (η : Env) : List E → List D
  | [] => []
  | x :: xs => x.den η :: E.dens η xs
def E.denss (η : Env) : List (List E) → List (List D)
  | [] => []
  | x :: xs => E.dens η x :: E.denss η xs
end

mutual
/-- No variable from m on. -/
def E.bd (m : Nat) : E → Bool
  | .v i _ => decide (i < m)
  | .b _ | .n _ _ | .s _ => true
  | .ar _ _ x y | .cmp _ x y | .scmp _ x y | .bcmp _ x y | .cat x y | .byte x y | .appAll x y | .and x y | .catOk x y | .rune x y | .rnext x y => x.bd m && y.bd m
  | .ssub x lo hi | .cut x lo hi | .ite x lo hi => x.bd m && lo.bd m && hi.bd m
  | .not x | .neg _ x | .conv _ x | .slen x | .len x | .bytes x => x.bd m
  | .cell x i _ _ => x.bd m && i.bd m
  | .lit _ es => E.bdss m es
  | .app x es => x.bd m && E.bds m es
  | .rep _ x es => x.bd m && E.bds m es
  | .upd x i _ y => x.bd m && i.bd m && y.bd m
def E.bds (m : Nat) : List E → Bool
  | [] => true
  | x :: xs => x.bd m && E.bds m xs
def E.bdss (m : Nat) : List (List E) → Bool
  | [] => true
  | x :: xs => E.bds m x && E.bdss m xs
end
mutual
theorem E.den_ext (η xs : Env) : ∀ (e : E), e.bd η.length = true → e.den (η ++ xs) = e.den η
  | .v i _, h => by
    simp only [E.bd, decide_eq_true_eq] at h
    simp [E.den, List.getElem?_append_left h]
  | .b _, _ | .n _ _, _ | .s _, _ => by simp [E.den]
  | .ar _ _ x y, h | .cmp _ x y, h | .scmp _ x y, h | .bcmp _ x y, h | .cat x y, h | .byte x y, h | .appAll x y, h | .and x y, h | .catOk x y, h | .rune x y, h | .rnext x y, h => by
    simp only [E.bd, Bool.and_eq_true] at h
    simp only [E.den, E.den_ext η xs x h.1, E.den_ext η xs y h.2]
  | .ssub x lo hi, h | .cut x lo hi, h | .ite x lo hi, h => by
    simp only [E.bd, Bool.and_eq_true] at h
    simp only [E.den, E.den_ext η xs x h.1.1, E.den_ext η xs lo h.1.2, E.den_ext η xs hi h.2]
  | .not x, h | .neg _ x, h | .conv _ x, h | .slen x, h | .len x, h | .bytes x, h => by
    simp only [E.bd] at h
    simp only [E.den, E.den_ext η xs x h]
  | .cell x i _ _, h => by
    simp only [E.bd, Bool.and_eq_true] at h
    simp only [E.den, E.den_ext η xs x h.1, E.den_ext η xs i h.2]
  | .lit _ es, h => by
    simp only [E.bd] at h
    simp only [E.den, E.denss_ext η xs es h]
  | .app x es, h => by
    simp only [E.bd, Bool.and_eq_true] at h
    simp only [E.den, E.den_ext η xs x h.1, E.dens_ext η xs es h.2]
  | .rep _ x es, h => by
    simp only [E.bd, Bool.and_eq_true] at h
    simp only [E.den, E.den_ext η xs x h.1, E.dens_ext η xs es h.2]
  | .upd x i _ y, h => by
    simp only [E.bd, Bool.and_eq_true] at h
    simp only [E.den, E.den_ext η xs x h.1.1, E.den_ext η xs i h.1.2, E.den_ext η xs y h.2]
theorem E.dens_ext (η xs : Env) : ∀ (es : List E), E.bds η.length es = true → E.dens (η ++ xs) es = E.dens η es
  | [], _ => rfl
  | x :: l, h => by
    simp only [E.bds, Bool.and_eq_true] at h
    simp only [E.dens, E.den_ext η xs x h.1, E.dens_ext η xs l h.2]
theorem E.denss_ext (η xs : Env) : ∀ (es : List (List E)), E.bdss η.length es = true → E.denss (η ++ xs) es = E.denss η es
  | [], _ => rfl
  | x :: l, h => by
    simp only [E.bdss, Bool.and_eq_true] at h
    simp only [E.denss, E.dens_ext η xs x h.1, E.denss_ext η xs l h.2]
end
mutual
theorem E.bd_mono {m m' : Nat} (hm : m ≤ m') : ∀ (e : E), e.bd m = true → e.bd m' = true
  | .v i _, h => by simp only [E.bd, decide_eq_true_eq] at h ⊢; omega
  | .b _, _ | .n _ _, _ | .s _, _ => by simp [E.bd]
  | .ar _ _ x y, h | .cmp _ x y, h | .scmp _ x y, h | .bcmp _ x y, h | .cat x y, h | .byte x y, h | .appAll x y, h | .and x y, h | .catOk x y, h | .rune x y, h | .rnext x y, h => by
    simp only [E.bd, Bool.and_eq_true] at h ⊢
    exact ⟨E.bd_mono hm x h.1, E.bd_mono hm y h.2⟩
  | .ssub x lo hi, h | .cut x lo hi, h | .ite x lo hi, h => by
    simp only [E.bd, Bool.and_eq_true] at h ⊢
    exact ⟨⟨E.bd_mono hm x h.1.1, E.bd_mono hm lo h.1.2⟩, E.bd_mono hm hi h.2⟩
  | .not x, h | .neg _ x, h | .conv _ x, h | .slen x, h | .len x, h | .bytes x, h => by
    simp only [E.bd] at h ⊢
    exact E.bd_mono hm x h
  | .cell x i _ _, h => by
    simp only [E.bd, Bool.and_eq_true] at h ⊢
    exact ⟨E.bd_mono hm x h.1, E.bd_mono hm i h.2⟩
  | .lit _ es, h => by simp only [E.bd] at h ⊢; exact E.bdss_mono hm es h
  | .app x es, h | .rep _ x es, h => by
    simp only [E.bd, Bool.and_eq_true] at h ⊢
    exact ⟨E.bd_mono hm x h.1, E.bds_mono hm es h.2⟩
  | .upd x i _ y, h => by
    simp only [E.bd, Bool.and_eq_true] at h ⊢
    exact ⟨⟨E.bd_mono hm x h.1.1, E.bd_mono hm i h.1.2⟩, E.bd_mono hm y h.2⟩
theorem E.bds_mono {m m' : Nat} (hm : m ≤ m') : ∀ (es : List E), E.bds m es = true → E.bds m' es = true
  | [], _ => rfl
  | x :: l, h => by
    simp only [E.bds, Bool.and_eq_true] at h ⊢
    exact ⟨E.bd_mono hm x h.1, E.bds_mono hm l h.2⟩
theorem E.bdss_mono {m m' : Nat} (hm : m ≤ m') : ∀ (es : List (List E)), E.bdss m es = true → E.bdss m' es = true
  | [], _ => rfl
  | x :: l, h => by
    simp only [E.bdss, Bool.and_eq_true] at h ⊢
    exact ⟨E.bds_mono hm x h.1, E.bdss_mono hm l h.2⟩
end

mutual
def Ty.beq : Ty → Ty → Bool
  | .bool, .bool => true
  | .int k, .int k' => decide (k = k')
  | .str, .str => true
  | .slc ts, .slc ts' => Ty.beqs ts ts'
  | _, _ => false
def Ty.beqs : List Ty → List Ty → Bool
  | [], [] => true
  | t :: ts, t' :: ts' => t.beq t' && Ty.beqs ts ts'
  | _, _ => false
end
mutual
theorem Ty.beq_eq : ∀ (a b : Ty), a.beq b = true → a = b
  | .bool, b, h => by cases b <;> simp_all [Ty.beq]
  | .int _, b, h => by cases b <;> simp_all [Ty.beq]
  | .str, b, h => by cases b <;> simp_all [Ty.beq]
  | .slc ts, b, h => by
    cases b with
    | slc ts' => rw [Ty.beqs_eq ts ts' (by simpa [Ty.beq] using h)]
    | _ => simp [Ty.beq] at h
theorem Ty.beqs_eq : ∀ (a b : List Ty), Ty.beqs a b = true → a = b
  | [], b, h => by cases b <;> simp_all [Ty.beqs]
  | t :: ts, b, h => by
    cases b with
    | nil => simp [Ty.beqs] at h
    | cons t' ts' =>
      simp only [Ty.beqs, Bool.and_eq_true] at h
      rw [Ty.beq_eq t t' h.1, Ty.beqs_eq ts ts' h.2]
end

/- Expressions written alike (those that a token may hold). -/
mutual
def E.beq : E → E → Bool
  | .v i t, .v j u => i == j && t.beq u
  | .lit ts es, .lit us fs => Ty.beqs ts us && E.beqss es fs
  | .app x es, .app y fs => x.beq y && E.beqs es fs
  | .appAll x y, .appAll x' y' => x.beq x' && y.beq y'
  | .cell x i o t, .cell x' i' o' t' => x.beq x' && (i.beq i' && (o == o' && t.beq t'))
  | .n k x, .n k' y => decide (k = k') && x == y
  | .b x, .b y => x == y
  | .bytes x, .bytes y => x.beq y
  | .s x, .s y => decide (x = y)
  | .cat x y, .cat x' y' => x.beq x' && y.beq y'
  | .conv k x, .conv k' x' => decide (k = k') && x.beq x'
  | .byte x y, .byte x' y' => x.beq x' && y.beq y'
  | .len x, .len y => x.beq y
  | .slen x, .slen y => x.beq y
  | .neg k x, .neg k' x' => decide (k = k') && x.beq x'
  | .ar o k x y, .ar o' k' x' y' => decide (o = o') && (decide (k = k') && (x.beq x' && y.beq y'))
  | .cmp o x y, .cmp o' x' y' => decide (o = o') && (x.beq x' && y.beq y')
  | .not x, .not y => x.beq y
  | .ite p q r, .ite p' q' r' => p.beq p' && (q.beq q' && r.beq r')
  | _, _ => false
def E.beqs : List E → List E → Bool
  | [], [] => true
  | x :: xs, y :: ys => x.beq y && E.beqs xs ys
  | _, _ => false
def E.beqss : List (List E) → List (List E) → Bool
  | [], [] => true
  | x :: xs, y :: ys => E.beqs x y && E.beqss xs ys
  | _, _ => false
end
mutual
theorem E.beq_eq : ∀ (x y : E), x.beq y = true → x = y := by
  intro x y h
  unfold E.beq at h
  split at h
  · simp only [Bool.and_eq_true, beq_iff_eq] at h; rw [h.1, Ty.beq_eq _ _ h.2]
  · simp only [Bool.and_eq_true] at h; rw [Ty.beqs_eq _ _ h.1, E.beqss_eq _ _ h.2]
  · simp only [Bool.and_eq_true] at h; rw [E.beq_eq _ _ h.1, E.beqs_eq _ _ h.2]
  · simp only [Bool.and_eq_true] at h; rw [E.beq_eq _ _ h.1, E.beq_eq _ _ h.2]
  · simp only [Bool.and_eq_true, beq_iff_eq] at h; rw [E.beq_eq _ _ h.1, E.beq_eq _ _ h.2.1, h.2.2.1, Ty.beq_eq _ _ h.2.2.2]
  · simp only [Bool.and_eq_true, beq_iff_eq, decide_eq_true_eq] at h; rw [h.1, h.2]
  · simp only [beq_iff_eq] at h; rw [h]
  · rw [E.beq_eq _ _ h]
  · simp only [decide_eq_true_eq] at h; rw [h]
  · simp only [Bool.and_eq_true] at h; rw [E.beq_eq _ _ h.1, E.beq_eq _ _ h.2]
  · simp only [Bool.and_eq_true, decide_eq_true_eq] at h; rw [h.1, E.beq_eq _ _ h.2]
  · simp only [Bool.and_eq_true] at h; rw [E.beq_eq _ _ h.1, E.beq_eq _ _ h.2]
  · rw [E.beq_eq _ _ h]
  · rw [E.beq_eq _ _ h]
  · simp only [Bool.and_eq_true, decide_eq_true_eq] at h; rw [h.1, E.beq_eq _ _ h.2]
  · simp only [Bool.and_eq_true, decide_eq_true_eq] at h; rw [h.1, h.2.1, E.beq_eq _ _ h.2.2.1, E.beq_eq _ _ h.2.2.2]
  · simp only [Bool.and_eq_true, decide_eq_true_eq] at h; rw [h.1, E.beq_eq _ _ h.2.1, E.beq_eq _ _ h.2.2]
  · rw [E.beq_eq _ _ h]
  · simp only [Bool.and_eq_true] at h; rw [E.beq_eq _ _ h.1, E.beq_eq _ _ h.2.1, E.beq_eq _ _ h.2.2]
  · cases h
theorem E.beqs_eq : ∀ (x y : List E), E.beqs x y = true → x = y
  | [], y, h => by cases y <;> simp_all [E.beqs]
  | t :: ts, y, h => by
    cases y with
    | nil => simp [E.beqs] at h
    | cons t' ts' =>
      simp only [E.beqs, Bool.and_eq_true] at h
      rw [E.beq_eq t t' h.1, E.beqs_eq ts ts' h.2]
theorem E.beqss_eq : ∀ (x y : List (List E)), E.beqss x y = true → x = y
  | [], y, h => by cases y <;> simp_all [E.beqss]
  | t :: ts, y, h => by
    cases y with
    | nil => simp [E.beqss] at h
    | cons t' ts' =>
      simp only [E.beqss, Bool.and_eq_true] at h
      rw [E.beqs_eq t t' h.1, E.beqss_eq ts ts' h.2]
end

/-- A cell of an object: not looked at; plain; a slice that grows; the object's own address or nil. -/
inductive CK where
  | un | pl (t : Ty) | gro (t : Nat) (ts : List Ty) | sp
  deriving Inhabited, Repr
def CK.tys : CK → List Ty
  | .un => [] | .pl t => [t] | .gro _ ts => [.slc ts] | .sp => [.bool]
def CK.tyss : List CK → List Ty
  | [] => []
  | k :: ks => k.tys ++ CK.tyss ks
/-- Kinds of arguments and results. 'obj': the address of a block that the callee may write. -/
inductive K where
  | one (t : Ty) | agg (ts : List Ty) | ref (ts : List Ty) | clo (g : Nat) (caps : List K) | obj (t : Nat) (cks : List CK) | unk
  deriving Inhabited, Repr

mutual
def K.tys : K → List Ty
  | .one t => [t]
  | .agg ts => ts
  | .ref ts => ts
  | .clo _ cs => K.tyss cs
  | .obj _ cks => CK.tyss cks
  | .unk => []
def K.tyss : List K → List Ty
  | [] => []
  | k :: ks => k.tys ++ K.tyss ks
end

def K.otys : K → List Ty
  | .obj _ cks => CK.tyss cks
  | _ => []
def K.otyss : List K → List Ty
  | [] => []
  | k :: ks => k.otys ++ K.otyss ks
/-- What a call hands back: its results, and what its objects hold behind it. -/
def K.rts (ks rk : List K) : List Ty := K.tyss rk ++ K.otyss ks
inductive T where
  | ret (xs : List E)
  | ite (c : E) (t e : T)
  | guard (c : E) (t : T)
  | may (c : E) (t e : T)
  | call (g : Nat) (ks : List K) (as : List E) (rk : List K) (t : T)
  | jump (l : Nat) (as : List E)
  | dead
  deriving Inhabited

/-- What a tree comes to. 'C': what calls come to; 'B': the blocks. The number: its height. -/
inductive EvN (C : Nat → List K → List D → List K → List D → Prop) (B : Nat → T) : Nat → T → Env → List D → Prop where
  | ret {h : Nat} {xs : List E} {η : Env} {rs : List D} (hr : E.dens η xs = rs) : EvN C B h (.ret xs) η rs
  | iteT {h : Nat} {c : E} {t e : T} {η : Env} {rs : List D} (hc : (c.den η).toB = true) (ht : EvN C B h t η rs) : EvN C B (h + 1) (.ite c t e) η rs
  | iteF {h : Nat} {c : E} {t e : T} {η : Env} {rs : List D} (hc : (c.den η).toB = false) (ht : EvN C B h e η rs) : EvN C B (h + 1) (.ite c t e) η rs
  | guard {h : Nat} {c : E} {t : T} {η : Env} {rs : List D} (hc : (c.den η).toB = true) (ht : EvN C B h t η rs) : EvN C B (h + 1) (.guard c t) η rs
  | may {h : Nat} {c : E} {t e : T} {η : Env} {rs : List D} (ht : (c.den η).toB = true → EvN C B h t η rs) (he : EvN C B h e η rs) : EvN C B (h + 1) (.may c t e) η rs
  | call {h : Nat} {g : Nat} {ks rk : List K} {as : List E} {t : T} {η : Env} {xs rs : List D} (hc : C g ks (E.dens η as) rk xs) (hl : xs.length = (K.rts ks rk).length)
      (ht : EvN C B h t (η ++ xs) rs) : EvN C B (h + 1) (.call g ks as rk t) η rs
  | jump {h : Nat} {l : Nat} {as : List E} {η : Env} {rs : List D} (ht : EvN C B h (B l) (E.dens η as) rs) : EvN C B (h + 1) (.jump l as) η rs

def Ev (C : Nat → List K → List D → List K → List D → Prop) (B : Nat → T) (t : T) (η : Env) (rs : List D) : Prop := ∃ h, EvN C B h t η rs

/-! ### 2. Data in memory -/
abbrev Ok := Nat → Nat → Prop
mutual
def VR (ok : Ok) (w : World) : Ty → D → Value → Prop
  | .bool, d, v => ∃ b, d = .bool b ∧ v = .bool b
  | .int k, d, v => ∃ n, d = .int k n ∧ v = .int k n
  | .str, d, v => ∃ s, d = .str s ∧ v = .string s
  | .slc ts, d, v => ∃ es A cap, d = .slc es ∧ v = .slice A es.length cap ∧ es.length ≤ cap ∧ cap ≤ maxLen ∧ (A = none → cap = 0) ∧
      ∀ j c, es[j]? = some c → ∃ ad vs, A = some ad ∧ VRs ok w ts c vs ∧
        ∀ i u, vs[i]? = some u → ok (ad.add (j * ts.length + i)).block (ad.add (j * ts.length + i)).off ∧ w.cell? (ad.add (j * ts.length + i)) = some u
def VRs (ok : Ok) (w : World) : List Ty → List D → List Value → Prop
  | [], ds, vs => ds = [] ∧ vs = []
  | t :: ts, ds, vs => ∃ d ds' v vs', ds = d :: ds' ∧ vs = v :: vs' ∧ VR ok w t d v ∧ VRs ok w ts ds' vs'
end

mutual
def KR (ok : Ok) (w : World) : K → List D → Value → Prop
  | .one t, ds, v => ∃ d, ds = [d] ∧ VR ok w t d v
  | .agg ts, ds, v => ∃ us, v = .agg us ∧ VRs ok w ts ds us.toList
  | .ref ts, ds, v => ∃ a us, v = .pointer (some a) ∧ VRs ok w ts ds us ∧ ∀ i u, us[i]? = some u → w.cell? (a.add i) = some u
  | .clo g cs, ds, v => ∃ us, v = .func (.func g) #[] us ∧ KRs ok w cs ds us.toList
  | .obj _ _, _, _ => False
  | .unk, ds, _ => ds = []
def KRs (ok : Ok) (w : World) : List K → List D → List Value → Prop
  | [], ds, vs => ds = [] ∧ vs = []
  | k :: ks, ds, vs => ∃ d1 d2 v vs', ds = d1 ++ d2 ∧ vs = v :: vs' ∧ KR ok w k d1 v ∧ KRs ok w ks d2 vs'
end

/-- A list of results as the one value that a call hands back. -/
def packed : List Value → Value
  | [v] => v
  | vs => .tuple vs.toArray
def okNew (ok : Ok) (w : World) : Ok := fun b o => ok b o ∨ w.heap.size ≤ b
/-- What the package-level variables hold: a word on blocks of their own. -/
structure Lay where
  G : Nat → Prop
  p : World → Prop
  lt : ∀ w, p w → ∀ k, G k → k < w.heap.size
  mono : ∀ w w', (∀ k, G k → w'.heap[k]? = w.heap[k]?) → p w → p w'
/-- Of what was there, all but the blocks 'fp' is as it was. -/
structure Kept (fp : Nat → Prop) (w w' : World) : Prop where
  os : w'.os = w.os
  tape : w'.tape = w.tape
  output : w'.output = w.output
  size : w.heap.size ≤ w'.heap.size
  block : ∀ k, k < w.heap.size → ¬ fp k → w'.heap[k]? = w.heap[k]?
theorem Kept.refl (fp : Nat → Prop) (w : World) : Kept fp w w := ⟨rfl, rfl, rfl, Nat.le_refl _, fun _ _ _ => rfl⟩
theorem Kept.step {fp : Nat → Prop} {a b c : World} (h : Kept fp a b) (h1 : c.os = b.os) (h2 : c.tape = b.tape) (h3 : c.output = b.output) (h4 : b.heap.size ≤ c.heap.size)
    (h5 : ∀ k, k < a.heap.size → ¬ fp k → c.heap[k]? = b.heap[k]?) : Kept fp a c :=
  ⟨h1.trans h.os, h2.trans h.tape, h3.trans h.output, Nat.le_trans h.size h4, fun k hk hf => (h5 k hk hf).trans (h.block k hk hf)⟩
theorem Kept.trans {fp : Nat → Prop} {a b c : World} (h : Kept fp a b) (k : Kept fp b c) : Kept fp a c := h.step k.os k.tape k.output k.size fun i hi hf => k.block i (Nat.lt_of_lt_of_le hi h.size) hf
theorem Kept.alloc {fp : Nat → Prop} {a w : World} (h : Kept fp a w) (o : Obj) : Kept fp a (w.alloc o) :=
  h.step rfl rfl rfl (by simp) fun k hk _ => Below.heap_alloc _ _ _ (Nat.lt_of_lt_of_le hk h.size)
theorem Kept.below {fp : Nat → Prop} {a b c : World} (h : Kept fp a b) (k : Below b.heap.size b c) : Kept fp a c :=
  h.step k.os k.tape k.output k.size fun i hi _ => k.block i (Nat.lt_of_lt_of_le hi h.size)
theorem Below.kept {fp : Nat → Prop} {a b : World} (k : Below a.heap.size a b) : Kept fp a b := (Kept.refl fp a).below k
theorem Kept.toBelow {a b : World} (h : Kept (fun _ => False) a b) : Below a.heap.size a b := ⟨h.os, h.tape, h.output, h.size, fun k hk => h.block k hk id⟩
theorem Lay.kept {L : Lay} {fp : Nat → Prop} {w w' : World} (h : Kept fp w w') (hf : ∀ k, fp k → ¬ L.G k) (hp : L.p w) : L.p w' :=
  L.mono w w' (fun k hk => h.block k (L.lt w hp k hk) fun hfk => hf k hfk hk) hp
def CorrectAt (P : Program) (L : Lay) (f : Nat) (ks : List K) (ds : List D) (rk : List K) (rs : List D) : Prop :=
  ∀ (ok : Ok) (w : World) (vs : List Value), L.p w → KRs ok w ks ds vs →
    Calls P f vs.toArray w fun e w' => (∃ us, e = .returned (packed us) ∧ KRs (okNew ok w) w' rk rs us) ∧ Below w.heap.size w w'

/-- Memory goes on: what is ok and could be read can be read. -/
def Keeps (ok ok' : Ok) (w w' : World) : Prop := ∀ a : Addr, ∀ u, ok a.block a.off → w.cell? a = some u → ok' a.block a.off ∧ w'.cell? a = some u

mutual
theorem VR.keeps {ok ok' : Ok} {w w' : World} (hk : Keeps ok ok' w w') : ∀ (t : Ty) (d : D) (v : Value), VR ok w t d v → VR ok' w' t d v
  | .bool, _, _, h => h
  | .int _, _, _, h => h
  | .str, _, _, h => h
  | .slc ts, d, v, h => by
    obtain ⟨es, A, cap, h1, h2, h3, h4, h5, h6⟩ := h
    refine ⟨es, A, cap, h1, h2, h3, h4, h5, fun j c hc => ?_⟩
    obtain ⟨ad, vs, ha, hv, hcell⟩ := h6 j c hc
    exact ⟨ad, vs, ha, VRs.keeps hk ts c vs hv, fun i u hu => hk _ _ (hcell i u hu).1 (hcell i u hu).2⟩
theorem VRs.keeps {ok ok' : Ok} {w w' : World} (hk : Keeps ok ok' w w') : ∀ (ts : List Ty) (ds : List D) (vs : List Value), VRs ok w ts ds vs → VRs ok' w' ts ds vs
  | [], _, _, h => h
  | t :: ts, _, _, h => by
    obtain ⟨d, ds', v, vs', h1, h2, h3, h4⟩ := h
    exact ⟨d, ds', v, vs', h1, h2, VR.keeps hk t d v h3, VRs.keeps hk ts ds' vs' h4⟩
end

theorem VRs.length {ok : Ok} {w : World} : ∀ {ts : List Ty} {ds : List D} {vs : List Value}, VRs ok w ts ds vs → ds.length = ts.length ∧ vs.length = ts.length
  | [], _, _, h => by obtain ⟨rfl, rfl⟩ := h; exact ⟨rfl, rfl⟩
  | t :: ts, _, _, h => by
    obtain ⟨d, ds', v, vs', rfl, rfl, _, h4⟩ := h
    obtain ⟨h5, h6⟩ := VRs.length h4
    exact ⟨by simp [h5], by simp [h6]⟩

theorem VRs.get {ok : Ok} {w : World} : ∀ {ts : List Ty} {ds : List D} {vs : List Value}, VRs ok w ts ds vs → ∀ {i : Nat} {t : Ty}, ts[i]? = some t →
    ∃ v, vs[i]? = some v ∧ VR ok w t (ds.getD i default) v
  | [], _, _, h, i, t, ht => by simp at ht
  | t0 :: ts, _, _, h, i, t, ht => by
    obtain ⟨d, ds', v, vs', rfl, rfl, h3, h4⟩ := h
    cases i with
    | zero => simp at ht; subst ht; exact ⟨v, rfl, h3⟩
    | succ i => simpa using VRs.get h4 (by simpa using ht)

theorem VRs.append {ok : Ok} {w : World} : ∀ {ts : List Ty} {ds : List D} {vs : List Value} {ts' ds' vs'}, VRs ok w ts ds vs → VRs ok w ts' ds' vs' → VRs ok w (ts ++ ts') (ds ++ ds') (vs ++ vs')
  | [], _, _, _, _, _, h, h' => by obtain ⟨rfl, rfl⟩ := h; exact h'
  | t :: ts, _, _, _, _, _, h, h' => by
    obtain ⟨d, ds', v, vs', rfl, rfl, h3, h4⟩ := h
    exact ⟨d, _, v, _, rfl, rfl, h3, VRs.append h4 h'⟩

/-- A value that is one cell. -/
theorem VR.one {ok : Ok} {w : World} : ∀ {t : Ty} {d : D} {v : Value}, VR ok w t d v → v.oneCell' = true ∧ v.cells = #[v]
  | .bool, _, _, h => by obtain ⟨b, rfl, rfl⟩ := h; exact ⟨rfl, rfl⟩
  | .int _, _, _, h => by obtain ⟨b, rfl, rfl⟩ := h; exact ⟨rfl, rfl⟩
  | .str, _, _, h => by obtain ⟨b, rfl, rfl⟩ := h; exact ⟨rfl, rfl⟩
  | .slc _, _, _, h => by obtain ⟨es, A, cap, _, rfl, _⟩ := h; exact ⟨rfl, rfl⟩

theorem VR.bool_ {ok : Ok} {w : World} {d : D} {v : Value} (h : VR ok w .bool d v) : v = .bool d.toB ∧ d = .bool d.toB := by
  obtain ⟨b, rfl, rfl⟩ := h; exact ⟨rfl, rfl⟩
theorem VR.int_ {ok : Ok} {w : World} {k : IntKind} {d : D} {v : Value} (h : VR ok w (.int k) d v) : v = .int k d.toI ∧ d = .int k d.toI := by
  obtain ⟨b, rfl, rfl⟩ := h; exact ⟨rfl, rfl⟩
theorem VR.str_ {ok : Ok} {w : World} {d : D} {v : Value} (h : VR ok w .str d v) : v = .string d.toS ∧ d = .str d.toS := by
  obtain ⟨b, rfl, rfl⟩ := h; exact ⟨rfl, rfl⟩

theorem Keeps.below {ok : Ok} {w w' : World} (h : Below w.heap.size w w') : Keeps ok ok w w' := fun a _ ho hc =>
  ⟨ho, (h.cell (World.block_lt_of_cell? w a hc)).trans hc⟩
theorem Keeps.weaken {ok ok' : Ok} {w : World} (h : ∀ b o, ok b o → ok' b o) : Keeps ok ok' w w := fun _ _ ho hc => ⟨h _ _ ho, hc⟩
theorem Keeps.trans {ok ok' ok'' : Ok} {w w' w'' : World} (h : Keeps ok ok' w w') (h' : Keeps ok' ok'' w' w'') : Keeps ok ok'' w w'' := fun a u ho hc =>
  h' a u (h a u ho hc).1 (h a u ho hc).2
end Fw
