import Derived.Test.YtbikkfomnbmkpaaDoorFwW
import Derived.Test.YtbikkfomnbmkpaaDoorTrydShelfP
import Derived.Lib.Builder
import Derived.Lib.UnsafeStr
import Derived.Laws.Externs
import Derived.Shelf.RegionOpenPlain
import Derived.WalkKit
set_option linter.unusedSimpArgs false
namespace Fw.SA
open Go Fw Go.RowKit Go.Proofs
theorem mixed : Tryd.prog.follows .mixedOrders = true := by kernel_rfl
noncomputable def lay : Lay := layOf Tryd.prog tables
/- What copyCheck does to the machine. -/
open Go.Proofs
set_option maxHeartbeats 1000000 in
set_option maxRecDepth 100000 in
theorem copyCheck_used (b : Nat) (w : World) (h0 : w.cell? ⟨b, 0, none⟩ = some (.pointer (some ⟨b, 0, none⟩))) :
    Calls Tryd.prog 54 #[.pointer (some ⟨b, 0, none⟩)] w fun e w' => e = .returned (.tuple #[]) ∧ w' = w := by
  obtain ⟨j, hj, _⟩ := Option.map_eq_some_iff.1 (show (Tryd.prog.info? 76).map (·.size) = some 2 by kernel_rfl)
  go_enter Tryd.func54, Tryd.ntmps54
  go_wp2
  rw [Lib.run_neq_ptr_same w _ Tryd.underlying73 hj]
  go_wp2
  go_end0
  exact ⟨rfl, rfl⟩
set_option maxHeartbeats 1000000 in
set_option maxRecDepth 100000 in
theorem copyCheck_fresh (b : Nat) (w : World) (h0 : w.cell? ⟨b, 0, none⟩ = some (.pointer none)) (hsh : w.shape? b = some (76, 2)) (hfz : w.frozen? ⟨b, 0, none⟩ = false) :
    Calls Tryd.prog 54 #[.pointer (some ⟨b, 0, none⟩)] w fun e w' => e = .returned (.tuple #[]) ∧ w' = w.setCell ⟨b, 0, none⟩ (.pointer (some ⟨b, 0, none⟩)) := by
  obtain ⟨j, hj, hjs⟩ := Option.map_eq_some_iff.1 (show (Tryd.prog.info? 76).map (·.size) = some 2 by kernel_rfl)
  go_enter Tryd.func54, Tryd.ntmps54
  go_wp2
  rw [Lib.run_to_unsafe w ⟨b, 0, none⟩ Tryd.underlying73 Tryd.underlying94 hj (by rw [hjs]; decide) hsh (Nat.zero_lt_succ 1)]
  simp only [Result.andThen]
  rw [Oper.upon_value]
  go_wp2
  rw [run_callFunc_extern Tryd.func59 (by kernel_rfl) (by kernel_rfl) (by kernel_rfl) (e := Extern.AbiNoEscape.same) (by kernel_rfl)]
  rw [Lib.run_noEscape]
  simp only [Result.andThen]
  rw [Oper.upon_value]
  go_wp2
  rw [Lib.run_from_unsafe w ⟨b, 0, none⟩ Tryd.underlying94 Tryd.underlying73 hj hsh (by kernel_rfl)]
  simp only [Result.andThen]
  rw [Oper.upon_value]
  go_wp2
  go_end0
  exact ⟨rfl, rfl⟩
set_option maxHeartbeats 2000000 in
set_option maxRecDepth 100000 in
theorem string_run (b g cap : Nat) (p : Value) (l : List UInt8) (cur : Array Value) (fz : Nat × Nat) (w : World) (hbk : w.heap[b]? = some (.cells #[p, .slice (some ⟨g, 0, none⟩) l.length cap] 76 (0, 0)))
    (hg : w.heap[g]? = some (.cells cur 5 fz)) (h0 : l ≠ []) (hcap : l.length ≤ cap) (hmax : cap ≤ maxLen) (hcs : cur.size = cap) (hcells : ∀ (j : Nat) x, l[j]? = some x → w.cell? ((⟨g, 0, none⟩ : Addr).add j) = some (.int .u8 x.toNat)) :
    Calls Tryd.prog 49 #[.pointer (some ⟨b, 0, none⟩)] w fun e w' => e = .returned (.string ⟨l.toArray⟩) ∧ w' = w.drew.freeze ⟨g, 0, none⟩ l.length := by
  have hl0 : l.length ≠ 0 := by simpa using h0
  have c1 : w.drew.cell? ⟨b, 1, none⟩ = some (.slice (some ⟨g, 0, none⟩) l.length cap) := by
    have : w.drew.heap[b]? = some (.cells #[p, .slice (some ⟨g, 0, none⟩) l.length cap] 76 (0, 0)) := hbk
    rw [Lib.cell_of_heap this]; rfl
  have hSD : (Builtin.unsafeSliceData_ #[74] 90 #[.slice (some ⟨g, 0, none⟩) l.length cap]).run Tryd.prog w.drew = .ok (.pointer (some ⟨g, 0, none⟩)) w.drew :=
    Lib.run_unsafeSliceData_row _ _ _ _ _ _ (by omega)
  have hUS : (Builtin.unsafeString_ #[90, 3] 9 #[.pointer (some ⟨g, 0, none⟩), .int .i64 l.length]).run Tryd.prog w.drew = .ok (.string ⟨l.toArray⟩) (w.drew.freeze ⟨g, 0, none⟩ l.length) := by
    refine Lib.run_unsafeString_row w.drew 90 3 9 5 Tryd.underlying90 (by kernel_rfl) g cur.size (by have hg' : w.drew.heap[g]? = some (.cells cur 5 fz) := hg; simp [World.shape?, hg']) l h0 (by omega) (by unfold maxLen at hmax; omega) ?_
    exact fun j x hx => hcells j x hx
  have mixed : Tryd.prog.follows .mixedOrders = true := by kernel_rfl
  go_enter Tryd.func49, Tryd.ntmps49
  go_wp2
  go_region_o
  all_goals (go_wp2; go_ret; exact ⟨rfl, rfl⟩)
/- familycheck/familychecklaw02.bigRule -/
def k_law02_bigRule : List K := [(.agg [.str, (.int .i64), (.int .i64), (.int .i64), (.int .i64), (.int .i64), (.slc [(.int .i64)]), (.slc [(.int .i64), (.int .i64), (.int .i64), (.int .i64), (.int .i64), (.int .i64)]), (.slc [(.int .i64)]), (.slc [(.int .i64)]), (.int .i64), (.int .i64), (.slc [(.int .i64)]), (.int .i64), (.slc [(.int .i64)]), (.slc [(.int .i64)]), (.slc [(.int .i64)]), (.int .i64)])]
def r_law02_bigRule : List K := [(.one .bool)]
def b_law02_bigRule : List Blk := []
noncomputable def c_law02_bigRule : Ctx := mkCtx Tryd.prog lay Tryd.f31 ⟨[], [], []⟩ k_law02_bigRule r_law02_bigRule [] b_law02_bigRule
def t_law02_bigRule : T :=
 (.ite (.cmp .gtr (.slen (.v 0 .str)) (.n .i64 500))
  (.ret [(.b true)])
  (.ite (.cmp .gtr (.len (.v 6 (.slc [(.int .i64)]))) (.n .i64 60))
   (.ret [(.b true)])
   (.ite (.cmp .gtr (.len (.v 7 (.slc [(.int .i64), (.int .i64), (.int .i64), (.int .i64), (.int .i64), (.int .i64)]))) (.n .i64 60))
    (.ret [(.b true)])
    (.ite (.cmp .gtr (.len (.v 8 (.slc [(.int .i64)]))) (.n .i64 60))
     (.ret [(.b true)])
     (.ite (.cmp .gtr (.len (.v 9 (.slc [(.int .i64)]))) (.n .i64 60))
      (.ret [(.b true)])
      (.ite (.cmp .gtr (.len (.v 12 (.slc [(.int .i64)]))) (.n .i64 60))
       (.ret [(.b true)])
       (.ite (.cmp .gtr (.len (.v 14 (.slc [(.int .i64)]))) (.n .i64 60))
        (.ret [(.b true)])
        (.ite (.cmp .gtr (.len (.v 15 (.slc [(.int .i64)]))) (.n .i64 60))
         (.ret [(.b true)])
         (.ret [(.cmp .gtr (.len (.v 16 (.slc [(.int .i64)]))) (.n .i64 60))])))))))))
def B_law02_bigRule : Nat → T
  | _ => .dead
theorem ok_law02_bigRule : c_law02_bigRule.Ok 31 B_law02_bigRule := ok_of Tryd.func31 (by kernel_rfl) mixed
  (.nil)
theorem correct_law02_bigRule {ds rs : List D} (h : Ev (Corr Tryd.prog lay) B_law02_bigRule t_law02_bigRule ds rs) : Corr Tryd.prog lay 31 k_law02_bigRule ds r_law02_bigRule rs :=
  correct_of ok_law02_bigRule (n := 100000) (t := t_law02_bigRule) (by kernel_rfl) (by kernel_rfl) h
noncomputable def S_law02_bigRule : Nat → List D → List D
  | _, _ => []
def P_law02_bigRule : Nat → List K → List D → List K → Prop
  | _, _, _, _ => False
theorem use_law02_bigRule : ∀ g ks ds rk xs, ByS P_law02_bigRule S_law02_bigRule g ks ds rk xs → Corr Tryd.prog lay g ks ds rk xs := by
  intro g ks ds rk xs h
  obtain ⟨h1, rfl⟩ := h
  unfold P_law02_bigRule at h1
  split at h1
  · exact h1.elim
theorem spec_of_law02_bigRule (law : ∀ ds, D.wts (K.tyss k_law02_bigRule) ds → p_law02_bigRule ds → Ev (ByS P_law02_bigRule S_law02_bigRule) B_law02_bigRule t_law02_bigRule ds (s_law02_bigRule ds)) : ∀ ds, p_law02_bigRule ds → Corr Tryd.prog lay 31 k_law02_bigRule ds r_law02_bigRule (s_law02_bigRule ds) :=
  fun ds hp => .of_wt (by decide) fun hw => correct_law02_bigRule ((law ds hw hp).monoC use_law02_bigRule)
theorem law_law02_bigRule (ds : List D) (hw : D.wts (K.tyss k_law02_bigRule) ds) (hp : p_law02_bigRule ds) : Ev (ByS P_law02_bigRule S_law02_bigRule) B_law02_bigRule t_law02_bigRule ds (s_law02_bigRule ds) := by
  obtain ⟨a0_, _, rfl, ⟨x0, rfl⟩, a1_, _, rfl, ⟨x1, rfl⟩, a2_, _, rfl, ⟨x2, rfl⟩, a3_, _, rfl, ⟨x3, rfl⟩, a4_, _, rfl, ⟨x4, rfl⟩, a5_, _, rfl, ⟨x5, rfl⟩, a6_, _, rfl, wa6, a7_, _, rfl, wa7, a8_, _, rfl, wa8, a9_, _, rfl, wa9, a10_, _, rfl, ⟨x10, rfl⟩, a11_, _, rfl, ⟨x11, rfl⟩, a12_, _, rfl, wa12, a13_, _, rfl, ⟨x13, rfl⟩, a14_, _, rfl, wa14, a15_, _, rfl, wa15, a16_, _, rfl, wa16, a17_, _, rfl, ⟨x17, rfl⟩, rfl⟩ := hw
  simp only [s_law02_bigRule, bigRule, over, nth, List.getD_cons_zero, List.getD_cons_succ, D.toS_str]
  unfold t_law02_bigRule
  simp only [K.rts, K.otyss, K.otys, CK.tyss, CK.tys, K.tyss, K.tys, Ev.call_iff, Ev.ite_iff, Ev.guard_iff, Ev.ret_iff, Ev.jump_iff, E.dens, E.denss, E.den, cmpD, arD, scmpD, ByteArray.toList_eq, List.getD_cons_zero, List.getD_cons_succ, D.toS_str, D.toI_int, D.toB_bool, decide_eq_true_eq]
  have hg : ∀ (a : Nat) (c : Int), ((a : Int) > c) ↔ ((c : Int) < a) := fun a c => Iff.rfl
  by_cases h0 : 500 < x0.size
  · rw [if_pos (by omega)]; simp [h0]
  rw [if_neg (by omega), decide_eq_false h0, Bool.false_or]
  by_cases h6 : 60 < a6_.toL.length
  · rw [if_pos (by omega)]; simp [h6]
  rw [if_neg (by omega), decide_eq_false h6, Bool.false_or]
  by_cases h7 : 60 < a7_.toL.length
  · rw [if_pos (by omega)]; simp [h7]
  rw [if_neg (by omega), decide_eq_false h7, Bool.false_or]
  by_cases h8 : 60 < a8_.toL.length
  · rw [if_pos (by omega)]; simp [h8]
  rw [if_neg (by omega), decide_eq_false h8, Bool.false_or]
  by_cases h9 : 60 < a9_.toL.length
  · rw [if_pos (by omega)]; simp [h9]
  rw [if_neg (by omega), decide_eq_false h9, Bool.false_or]
  by_cases h12 : 60 < a12_.toL.length
  · rw [if_pos (by omega)]; simp [h12]
  rw [if_neg (by omega), decide_eq_false h12, Bool.false_or]
  by_cases h14 : 60 < a14_.toL.length
  · rw [if_pos (by omega)]; simp [h14]
  rw [if_neg (by omega), decide_eq_false h14, Bool.false_or]
  by_cases h15 : 60 < a15_.toL.length
  · rw [if_pos (by omega)]; simp [h15]
  rw [if_neg (by omega), decide_eq_false h15, Bool.false_or]
  congr 2
  rw [Bool.eq_iff_iff, decide_eq_true_eq, decide_eq_true_eq]
  omega

theorem spec_law02_bigRule : ∀ ds, p_law02_bigRule ds → Corr Tryd.prog lay 31 k_law02_bigRule ds r_law02_bigRule (s_law02_bigRule ds) := spec_of_law02_bigRule law_law02_bigRule
/- familycheck/familychecklaw02.bigNames -/
def k_law02_bigNames : List K := [(.one (.slc [.str]))]
def r_law02_bigNames : List K := [(.one .bool)]
def b_law02_bigNames : List Blk := [{ st := [.code [0, 0, 0, 0, 1, 0, 1], .code [1, 0, 0, 0, 1, 0, 1], .code [1, 0, 0, 1, 0, 1], .inLoop [0, 1, 0, 1], .inBlock 0, .code [1, 1]], σ := { t := [(0, (.sc (.v 0 (.slc [.str])))), (2, (.sc (.v 1 .bool))), (3, (.sc (.v 2 (.int .i64))))], o := [] }, tys := [(.slc [.str]), .bool, (.int .i64)] }]
noncomputable def c_law02_bigNames : Ctx := mkCtx Tryd.prog lay Tryd.f32 ⟨[], [], []⟩ k_law02_bigNames r_law02_bigNames [(2, 0)] b_law02_bigNames
def t_law02_bigNames : T :=
 (.jump 0 [(.v 0 (.slc [.str])), (.b false), (.n .i64 0)])
def t0_law02_bigNames : T :=
 (.ite (.cmp .lss (.v 2 (.int .i64)) (.len (.v 0 (.slc [.str]))))
  (.guard (.and (.cmp .geq (.v 2 (.int .i64)) (.n .i64 0)) (.cmp .lss (.v 2 (.int .i64)) (.len (.v 0 (.slc [.str])))))
  (.ite (.cmp .gtr (.slen (.cell (.v 0 (.slc [.str])) (.v 2 (.int .i64)) 0 .str)) (.n .i64 500))
   (.ret [(.b true)])
   (.jump 0 [(.v 0 (.slc [.str])), (.v 1 .bool), (.ar .add .i64 (.v 2 (.int .i64)) (.n .i64 1))])))
  (.ret [(.b false)]))
def B_law02_bigNames : Nat → T
  | 0 => t0_law02_bigNames
  | _ => .dead
theorem ok_law02_bigNames : c_law02_bigNames.Ok 32 B_law02_bigNames := ok_of Tryd.func32 (by kernel_rfl) mixed
  (.cons (n := 100000) (by kernel_rfl) (.nil))
theorem correct_law02_bigNames {ds rs : List D} (h : Ev (Corr Tryd.prog lay) B_law02_bigNames t_law02_bigNames ds rs) : Corr Tryd.prog lay 32 k_law02_bigNames ds r_law02_bigNames rs :=
  correct_of ok_law02_bigNames (n := 100000) (t := t_law02_bigNames) (by kernel_rfl) (by kernel_rfl) h
noncomputable def S_law02_bigNames : Nat → List D → List D
  | _, _ => []
def P_law02_bigNames : Nat → List K → List D → List K → Prop
  | _, _, _, _ => False
theorem use_law02_bigNames : ∀ g ks ds rk xs, ByS P_law02_bigNames S_law02_bigNames g ks ds rk xs → Corr Tryd.prog lay g ks ds rk xs := by
  intro g ks ds rk xs h
  obtain ⟨h1, rfl⟩ := h
  unfold P_law02_bigNames at h1
  split at h1
  · exact h1.elim
theorem spec_of_law02_bigNames (law : ∀ ds, D.wts (K.tyss k_law02_bigNames) ds → p_law02_bigNames ds → Ev (ByS P_law02_bigNames S_law02_bigNames) B_law02_bigNames t_law02_bigNames ds (s_law02_bigNames ds)) : ∀ ds, p_law02_bigNames ds → Corr Tryd.prog lay 32 k_law02_bigNames ds r_law02_bigNames (s_law02_bigNames ds) :=
  fun ds hp => .of_wt (by decide) fun hw => correct_law02_bigNames ((law ds hw hp).monoC use_law02_bigNames)
theorem loop_law02_bigNames (es : List (List D)) (he : es.length ≤ maxLen) (hes : ∀ c ∈ es, D.wts [.str] c) (st : D) : ∀ (m i : Nat), es.length - i = m → i ≤ es.length →
    Ev (ByS P_law02_bigNames S_law02_bigNames) B_law02_bigNames (B_law02_bigNames 0) [.slc es, st, .int .i64 i] [.bool ((es.drop i).any fun r => decide (500 < (nth r 0).toS.size))] := by
  intro m
  induction m with
  | zero =>
    intro i hm h1
    have hi : ¬ (i < es.length) := by omega
    rw [List.drop_eq_nil_iff.2 (by omega)]
    show Ev _ _ t0_law02_bigNames _ _
    simp [t0_law02_bigNames, K.rts, K.otyss, K.otys, CK.tyss, CK.tys, K.tyss, K.tys, Ev.call_iff, Ev.ite_iff, Ev.guard_iff, Ev.ret_iff, Ev.jump_iff, E.dens, E.denss, E.den, cmpD, arD, scmpD, ByteArray.toList_eq, hi]
  | succ m ih =>
    intro i hm h1
    have hlt : i < es.length := by omega
    have hw : IntKind.i64.wrap ((i : Int) + 1) = (i : Int) + 1 := by rw [wrap64 (by omega) (by unfold maxLen at *; omega)]
    have hnext := ih (i + 1) (by omega) (by omega)
    rw [Int.natCast_add, Int.natCast_one] at hnext
    rw [List.drop_eq_getElem_cons hlt, List.any_cons]
    obtain ⟨x_, _, ha, ⟨x, rfl⟩, rfl⟩ := hes es[i] (List.getElem_mem hlt)
    rw [ha]
    generalize ((es.drop (i + 1)).any fun r => decide (500 < (nth r 0).toS.size)) = r at *
    show Ev _ _ t0_law02_bigNames _ _
    by_cases h0 : 500 < x.size
    · have h0' : (500 : Int) < x.size := by omega
      simp [t0_law02_bigNames, K.rts, K.otyss, K.otys, CK.tyss, CK.tys, K.tyss, K.tys, Ev.call_iff, Ev.ite_iff, Ev.guard_iff, Ev.ret_iff, Ev.jump_iff, E.dens, E.denss, E.den, cmpD, arD, scmpD, ByteArray.toList_eq, hlt, hw, ha, h0, h0']
    · have h0' : ¬ ((500 : Int) < x.size) := by omega
      simp [t0_law02_bigNames, K.rts, K.otyss, K.otys, CK.tyss, CK.tys, K.tyss, K.tys, Ev.call_iff, Ev.ite_iff, Ev.guard_iff, Ev.ret_iff, Ev.jump_iff, E.dens, E.denss, E.den, cmpD, arD, scmpD, ByteArray.toList_eq, hlt, hw, ha, h0, h0']
      try rw [if_neg (by omega)]
      exact hnext
theorem law_law02_bigNames (ds : List D) (hw : D.wts (K.tyss k_law02_bigNames) ds) (hp : p_law02_bigNames ds) : Ev (ByS P_law02_bigNames S_law02_bigNames) B_law02_bigNames t_law02_bigNames ds (s_law02_bigNames ds) := by
  obtain ⟨a0, _, rfl, ⟨es, rfl, he, hes⟩, rfl⟩ := hw
  have loop := loop_law02_bigNames es he hes (.bool false) _ 0 rfl (Nat.zero_le _)
  rw [List.drop_zero] at loop
  unfold t_law02_bigNames
  rw [Ev.jump_iff]
  exact loop

theorem spec_law02_bigNames : ∀ ds, p_law02_bigNames ds → Corr Tryd.prog lay 32 k_law02_bigNames ds r_law02_bigNames (s_law02_bigNames ds) := spec_of_law02_bigNames law_law02_bigNames
/- familycheck/familychecklaw02.Big -/
def k_law02_Big : List K := [(.agg [.str, (.int .i64), (.slc [.str]), (.slc [.str]), (.slc [.str]), (.int .i64), (.slc [(.int .i64), (.int .i64), (.int .i64), (.int .i64)]), (.slc [(.int .i64)]), (.slc [(.int .i64)]), (.slc [.str, (.int .i64), (.int .i64), (.int .i64), (.int .i64), (.int .i64), (.slc [(.int .i64)]), (.slc [(.int .i64), (.int .i64), (.int .i64), (.int .i64), (.int .i64), (.int .i64)]), (.slc [(.int .i64)]), (.slc [(.int .i64)]), (.int .i64), (.int .i64), (.slc [(.int .i64)]), (.int .i64), (.slc [(.int .i64)]), (.slc [(.int .i64)]), (.slc [(.int .i64)]), (.int .i64)])])]
def r_law02_Big : List K := [(.one .bool)]
def b_law02_Big : List Blk := [{ st := [.code [0, 0, 0, 0, 1, 0, 1, 1], .code [1, 0, 0, 0, 1, 0, 1, 1], .code [1, 0, 0, 1, 0, 1, 1], .inLoop [0, 1, 0, 1, 1], .inBlock 0, .code [1, 1, 1]], σ := { t := [(1, (.ptr 0 0)), (2, (.sc (.v 10 .bool))), (3, (.sc (.v 11 (.int .i64))))], o := [(.box 42 [(.sc (.v 0 .str)), (.sc (.v 1 (.int .i64))), (.sc (.v 2 (.slc [.str]))), (.sc (.v 3 (.slc [.str]))), (.sc (.v 4 (.slc [.str]))), (.sc (.v 5 (.int .i64))), (.sc (.v 6 (.slc [(.int .i64), (.int .i64), (.int .i64), (.int .i64)]))), (.sc (.v 7 (.slc [(.int .i64)]))), (.sc (.v 8 (.slc [(.int .i64)]))), (.sc (.v 9 (.slc [.str, (.int .i64), (.int .i64), (.int .i64), (.int .i64), (.int .i64), (.slc [(.int .i64)]), (.slc [(.int .i64), (.int .i64), (.int .i64), (.int .i64), (.int .i64), (.int .i64)]), (.slc [(.int .i64)]), (.slc [(.int .i64)]), (.int .i64), (.int .i64), (.slc [(.int .i64)]), (.int .i64), (.slc [(.int .i64)]), (.slc [(.int .i64)]), (.slc [(.int .i64)]), (.int .i64)])))])] }, tys := [.str, (.int .i64), (.slc [.str]), (.slc [.str]), (.slc [.str]), (.int .i64), (.slc [(.int .i64), (.int .i64), (.int .i64), (.int .i64)]), (.slc [(.int .i64)]), (.slc [(.int .i64)]), (.slc [.str, (.int .i64), (.int .i64), (.int .i64), (.int .i64), (.int .i64), (.slc [(.int .i64)]), (.slc [(.int .i64), (.int .i64), (.int .i64), (.int .i64), (.int .i64), (.int .i64)]), (.slc [(.int .i64)]), (.slc [(.int .i64)]), (.int .i64), (.int .i64), (.slc [(.int .i64)]), (.int .i64), (.slc [(.int .i64)]), (.slc [(.int .i64)]), (.slc [(.int .i64)]), (.int .i64)]), .bool, (.int .i64)] }]
noncomputable def c_law02_Big : Ctx := mkCtx Tryd.prog lay Tryd.f14 ⟨[(31, [(.one .bool)]), (32, [(.one .bool)])], [], []⟩ k_law02_Big r_law02_Big [(4, 0)] b_law02_Big
def t_law02_Big : T :=
 (.ite (.cmp .gtr (.slen (.v 0 .str)) (.n .i64 500))
  (.ret [(.b true)])
  (.ite (.cmp .gtr (.len (.v 2 (.slc [.str]))) (.n .i64 60))
   (.ret [(.b true)])
   (.ite (.cmp .gtr (.len (.v 3 (.slc [.str]))) (.n .i64 60))
    (.ret [(.b true)])
    (.ite (.cmp .gtr (.len (.v 4 (.slc [.str]))) (.n .i64 60))
     (.ret [(.b true)])
     (.ite (.cmp .gtr (.len (.v 6 (.slc [(.int .i64), (.int .i64), (.int .i64), (.int .i64)]))) (.n .i64 60))
      (.ret [(.b true)])
      (.ite (.cmp .gtr (.len (.v 7 (.slc [(.int .i64)]))) (.n .i64 60))
       (.ret [(.b true)])
       (.ite (.cmp .gtr (.len (.v 8 (.slc [(.int .i64)]))) (.n .i64 60))
        (.ret [(.b true)])
        (.ite (.cmp .gtr (.len (.v 9 (.slc [.str, (.int .i64), (.int .i64), (.int .i64), (.int .i64), (.int .i64), (.slc [(.int .i64)]), (.slc [(.int .i64), (.int .i64), (.int .i64), (.int .i64), (.int .i64), (.int .i64)]), (.slc [(.int .i64)]), (.slc [(.int .i64)]), (.int .i64), (.int .i64), (.slc [(.int .i64)]), (.int .i64), (.slc [(.int .i64)]), (.slc [(.int .i64)]), (.slc [(.int .i64)]), (.int .i64)]))) (.n .i64 30))
         (.ret [(.b true)])
         (.jump 0 [(.v 0 .str), (.v 1 (.int .i64)), (.v 2 (.slc [.str])), (.v 3 (.slc [.str])), (.v 4 (.slc [.str])), (.v 5 (.int .i64)), (.v 6 (.slc [(.int .i64), (.int .i64), (.int .i64), (.int .i64)])), (.v 7 (.slc [(.int .i64)])), (.v 8 (.slc [(.int .i64)])), (.v 9 (.slc [.str, (.int .i64), (.int .i64), (.int .i64), (.int .i64), (.int .i64), (.slc [(.int .i64)]), (.slc [(.int .i64), (.int .i64), (.int .i64), (.int .i64), (.int .i64), (.int .i64)]), (.slc [(.int .i64)]), (.slc [(.int .i64)]), (.int .i64), (.int .i64), (.slc [(.int .i64)]), (.int .i64), (.slc [(.int .i64)]), (.slc [(.int .i64)]), (.slc [(.int .i64)]), (.int .i64)])), (.b false), (.n .i64 0)])))))))))
def t0_law02_Big : T :=
 (.ite (.cmp .lss (.v 11 (.int .i64)) (.len (.v 9 (.slc [.str, (.int .i64), (.int .i64), (.int .i64), (.int .i64), (.int .i64), (.slc [(.int .i64)]), (.slc [(.int .i64), (.int .i64), (.int .i64), (.int .i64), (.int .i64), (.int .i64)]), (.slc [(.int .i64)]), (.slc [(.int .i64)]), (.int .i64), (.int .i64), (.slc [(.int .i64)]), (.int .i64), (.slc [(.int .i64)]), (.slc [(.int .i64)]), (.slc [(.int .i64)]), (.int .i64)]))))
  (.guard (.and (.cmp .geq (.v 11 (.int .i64)) (.n .i64 0)) (.cmp .lss (.v 11 (.int .i64)) (.len (.v 9 (.slc [.str, (.int .i64), (.int .i64), (.int .i64), (.int .i64), (.int .i64), (.slc [(.int .i64)]), (.slc [(.int .i64), (.int .i64), (.int .i64), (.int .i64), (.int .i64), (.int .i64)]), (.slc [(.int .i64)]), (.slc [(.int .i64)]), (.int .i64), (.int .i64), (.slc [(.int .i64)]), (.int .i64), (.slc [(.int .i64)]), (.slc [(.int .i64)]), (.slc [(.int .i64)]), (.int .i64)])))))
  (.call 31 [(.agg [.str, (.int .i64), (.int .i64), (.int .i64), (.int .i64), (.int .i64), (.slc [(.int .i64)]), (.slc [(.int .i64), (.int .i64), (.int .i64), (.int .i64), (.int .i64), (.int .i64)]), (.slc [(.int .i64)]), (.slc [(.int .i64)]), (.int .i64), (.int .i64), (.slc [(.int .i64)]), (.int .i64), (.slc [(.int .i64)]), (.slc [(.int .i64)]), (.slc [(.int .i64)]), (.int .i64)])] [(.cell (.v 9 (.slc [.str, (.int .i64), (.int .i64), (.int .i64), (.int .i64), (.int .i64), (.slc [(.int .i64)]), (.slc [(.int .i64), (.int .i64), (.int .i64), (.int .i64), (.int .i64), (.int .i64)]), (.slc [(.int .i64)]), (.slc [(.int .i64)]), (.int .i64), (.int .i64), (.slc [(.int .i64)]), (.int .i64), (.slc [(.int .i64)]), (.slc [(.int .i64)]), (.slc [(.int .i64)]), (.int .i64)])) (.v 11 (.int .i64)) 0 .str), (.cell (.v 9 (.slc [.str, (.int .i64), (.int .i64), (.int .i64), (.int .i64), (.int .i64), (.slc [(.int .i64)]), (.slc [(.int .i64), (.int .i64), (.int .i64), (.int .i64), (.int .i64), (.int .i64)]), (.slc [(.int .i64)]), (.slc [(.int .i64)]), (.int .i64), (.int .i64), (.slc [(.int .i64)]), (.int .i64), (.slc [(.int .i64)]), (.slc [(.int .i64)]), (.slc [(.int .i64)]), (.int .i64)])) (.v 11 (.int .i64)) 1 (.int .i64)), (.cell (.v 9 (.slc [.str, (.int .i64), (.int .i64), (.int .i64), (.int .i64), (.int .i64), (.slc [(.int .i64)]), (.slc [(.int .i64), (.int .i64), (.int .i64), (.int .i64), (.int .i64), (.int .i64)]), (.slc [(.int .i64)]), (.slc [(.int .i64)]), (.int .i64), (.int .i64), (.slc [(.int .i64)]), (.int .i64), (.slc [(.int .i64)]), (.slc [(.int .i64)]), (.slc [(.int .i64)]), (.int .i64)])) (.v 11 (.int .i64)) 2 (.int .i64)), (.cell (.v 9 (.slc [.str, (.int .i64), (.int .i64), (.int .i64), (.int .i64), (.int .i64), (.slc [(.int .i64)]), (.slc [(.int .i64), (.int .i64), (.int .i64), (.int .i64), (.int .i64), (.int .i64)]), (.slc [(.int .i64)]), (.slc [(.int .i64)]), (.int .i64), (.int .i64), (.slc [(.int .i64)]), (.int .i64), (.slc [(.int .i64)]), (.slc [(.int .i64)]), (.slc [(.int .i64)]), (.int .i64)])) (.v 11 (.int .i64)) 3 (.int .i64)), (.cell (.v 9 (.slc [.str, (.int .i64), (.int .i64), (.int .i64), (.int .i64), (.int .i64), (.slc [(.int .i64)]), (.slc [(.int .i64), (.int .i64), (.int .i64), (.int .i64), (.int .i64), (.int .i64)]), (.slc [(.int .i64)]), (.slc [(.int .i64)]), (.int .i64), (.int .i64), (.slc [(.int .i64)]), (.int .i64), (.slc [(.int .i64)]), (.slc [(.int .i64)]), (.slc [(.int .i64)]), (.int .i64)])) (.v 11 (.int .i64)) 4 (.int .i64)), (.cell (.v 9 (.slc [.str, (.int .i64), (.int .i64), (.int .i64), (.int .i64), (.int .i64), (.slc [(.int .i64)]), (.slc [(.int .i64), (.int .i64), (.int .i64), (.int .i64), (.int .i64), (.int .i64)]), (.slc [(.int .i64)]), (.slc [(.int .i64)]), (.int .i64), (.int .i64), (.slc [(.int .i64)]), (.int .i64), (.slc [(.int .i64)]), (.slc [(.int .i64)]), (.slc [(.int .i64)]), (.int .i64)])) (.v 11 (.int .i64)) 5 (.int .i64)), (.cell (.v 9 (.slc [.str, (.int .i64), (.int .i64), (.int .i64), (.int .i64), (.int .i64), (.slc [(.int .i64)]), (.slc [(.int .i64), (.int .i64), (.int .i64), (.int .i64), (.int .i64), (.int .i64)]), (.slc [(.int .i64)]), (.slc [(.int .i64)]), (.int .i64), (.int .i64), (.slc [(.int .i64)]), (.int .i64), (.slc [(.int .i64)]), (.slc [(.int .i64)]), (.slc [(.int .i64)]), (.int .i64)])) (.v 11 (.int .i64)) 6 (.slc [(.int .i64)])), (.cell (.v 9 (.slc [.str, (.int .i64), (.int .i64), (.int .i64), (.int .i64), (.int .i64), (.slc [(.int .i64)]), (.slc [(.int .i64), (.int .i64), (.int .i64), (.int .i64), (.int .i64), (.int .i64)]), (.slc [(.int .i64)]), (.slc [(.int .i64)]), (.int .i64), (.int .i64), (.slc [(.int .i64)]), (.int .i64), (.slc [(.int .i64)]), (.slc [(.int .i64)]), (.slc [(.int .i64)]), (.int .i64)])) (.v 11 (.int .i64)) 7 (.slc [(.int .i64), (.int .i64), (.int .i64), (.int .i64), (.int .i64), (.int .i64)])), (.cell (.v 9 (.slc [.str, (.int .i64), (.int .i64), (.int .i64), (.int .i64), (.int .i64), (.slc [(.int .i64)]), (.slc [(.int .i64), (.int .i64), (.int .i64), (.int .i64), (.int .i64), (.int .i64)]), (.slc [(.int .i64)]), (.slc [(.int .i64)]), (.int .i64), (.int .i64), (.slc [(.int .i64)]), (.int .i64), (.slc [(.int .i64)]), (.slc [(.int .i64)]), (.slc [(.int .i64)]), (.int .i64)])) (.v 11 (.int .i64)) 8 (.slc [(.int .i64)])), (.cell (.v 9 (.slc [.str, (.int .i64), (.int .i64), (.int .i64), (.int .i64), (.int .i64), (.slc [(.int .i64)]), (.slc [(.int .i64), (.int .i64), (.int .i64), (.int .i64), (.int .i64), (.int .i64)]), (.slc [(.int .i64)]), (.slc [(.int .i64)]), (.int .i64), (.int .i64), (.slc [(.int .i64)]), (.int .i64), (.slc [(.int .i64)]), (.slc [(.int .i64)]), (.slc [(.int .i64)]), (.int .i64)])) (.v 11 (.int .i64)) 9 (.slc [(.int .i64)])), (.cell (.v 9 (.slc [.str, (.int .i64), (.int .i64), (.int .i64), (.int .i64), (.int .i64), (.slc [(.int .i64)]), (.slc [(.int .i64), (.int .i64), (.int .i64), (.int .i64), (.int .i64), (.int .i64)]), (.slc [(.int .i64)]), (.slc [(.int .i64)]), (.int .i64), (.int .i64), (.slc [(.int .i64)]), (.int .i64), (.slc [(.int .i64)]), (.slc [(.int .i64)]), (.slc [(.int .i64)]), (.int .i64)])) (.v 11 (.int .i64)) 10 (.int .i64)), (.cell (.v 9 (.slc [.str, (.int .i64), (.int .i64), (.int .i64), (.int .i64), (.int .i64), (.slc [(.int .i64)]), (.slc [(.int .i64), (.int .i64), (.int .i64), (.int .i64), (.int .i64), (.int .i64)]), (.slc [(.int .i64)]), (.slc [(.int .i64)]), (.int .i64), (.int .i64), (.slc [(.int .i64)]), (.int .i64), (.slc [(.int .i64)]), (.slc [(.int .i64)]), (.slc [(.int .i64)]), (.int .i64)])) (.v 11 (.int .i64)) 11 (.int .i64)), (.cell (.v 9 (.slc [.str, (.int .i64), (.int .i64), (.int .i64), (.int .i64), (.int .i64), (.slc [(.int .i64)]), (.slc [(.int .i64), (.int .i64), (.int .i64), (.int .i64), (.int .i64), (.int .i64)]), (.slc [(.int .i64)]), (.slc [(.int .i64)]), (.int .i64), (.int .i64), (.slc [(.int .i64)]), (.int .i64), (.slc [(.int .i64)]), (.slc [(.int .i64)]), (.slc [(.int .i64)]), (.int .i64)])) (.v 11 (.int .i64)) 12 (.slc [(.int .i64)])), (.cell (.v 9 (.slc [.str, (.int .i64), (.int .i64), (.int .i64), (.int .i64), (.int .i64), (.slc [(.int .i64)]), (.slc [(.int .i64), (.int .i64), (.int .i64), (.int .i64), (.int .i64), (.int .i64)]), (.slc [(.int .i64)]), (.slc [(.int .i64)]), (.int .i64), (.int .i64), (.slc [(.int .i64)]), (.int .i64), (.slc [(.int .i64)]), (.slc [(.int .i64)]), (.slc [(.int .i64)]), (.int .i64)])) (.v 11 (.int .i64)) 13 (.int .i64)), (.cell (.v 9 (.slc [.str, (.int .i64), (.int .i64), (.int .i64), (.int .i64), (.int .i64), (.slc [(.int .i64)]), (.slc [(.int .i64), (.int .i64), (.int .i64), (.int .i64), (.int .i64), (.int .i64)]), (.slc [(.int .i64)]), (.slc [(.int .i64)]), (.int .i64), (.int .i64), (.slc [(.int .i64)]), (.int .i64), (.slc [(.int .i64)]), (.slc [(.int .i64)]), (.slc [(.int .i64)]), (.int .i64)])) (.v 11 (.int .i64)) 14 (.slc [(.int .i64)])), (.cell (.v 9 (.slc [.str, (.int .i64), (.int .i64), (.int .i64), (.int .i64), (.int .i64), (.slc [(.int .i64)]), (.slc [(.int .i64), (.int .i64), (.int .i64), (.int .i64), (.int .i64), (.int .i64)]), (.slc [(.int .i64)]), (.slc [(.int .i64)]), (.int .i64), (.int .i64), (.slc [(.int .i64)]), (.int .i64), (.slc [(.int .i64)]), (.slc [(.int .i64)]), (.slc [(.int .i64)]), (.int .i64)])) (.v 11 (.int .i64)) 15 (.slc [(.int .i64)])), (.cell (.v 9 (.slc [.str, (.int .i64), (.int .i64), (.int .i64), (.int .i64), (.int .i64), (.slc [(.int .i64)]), (.slc [(.int .i64), (.int .i64), (.int .i64), (.int .i64), (.int .i64), (.int .i64)]), (.slc [(.int .i64)]), (.slc [(.int .i64)]), (.int .i64), (.int .i64), (.slc [(.int .i64)]), (.int .i64), (.slc [(.int .i64)]), (.slc [(.int .i64)]), (.slc [(.int .i64)]), (.int .i64)])) (.v 11 (.int .i64)) 16 (.slc [(.int .i64)])), (.cell (.v 9 (.slc [.str, (.int .i64), (.int .i64), (.int .i64), (.int .i64), (.int .i64), (.slc [(.int .i64)]), (.slc [(.int .i64), (.int .i64), (.int .i64), (.int .i64), (.int .i64), (.int .i64)]), (.slc [(.int .i64)]), (.slc [(.int .i64)]), (.int .i64), (.int .i64), (.slc [(.int .i64)]), (.int .i64), (.slc [(.int .i64)]), (.slc [(.int .i64)]), (.slc [(.int .i64)]), (.int .i64)])) (.v 11 (.int .i64)) 17 (.int .i64))] [(.one .bool)]
  (.ite (.v 12 .bool)
   (.ret [(.b true)])
   (.jump 0 [(.v 0 .str), (.v 1 (.int .i64)), (.v 2 (.slc [.str])), (.v 3 (.slc [.str])), (.v 4 (.slc [.str])), (.v 5 (.int .i64)), (.v 6 (.slc [(.int .i64), (.int .i64), (.int .i64), (.int .i64)])), (.v 7 (.slc [(.int .i64)])), (.v 8 (.slc [(.int .i64)])), (.v 9 (.slc [.str, (.int .i64), (.int .i64), (.int .i64), (.int .i64), (.int .i64), (.slc [(.int .i64)]), (.slc [(.int .i64), (.int .i64), (.int .i64), (.int .i64), (.int .i64), (.int .i64)]), (.slc [(.int .i64)]), (.slc [(.int .i64)]), (.int .i64), (.int .i64), (.slc [(.int .i64)]), (.int .i64), (.slc [(.int .i64)]), (.slc [(.int .i64)]), (.slc [(.int .i64)]), (.int .i64)])), (.v 10 .bool), (.ar .add .i64 (.v 11 (.int .i64)) (.n .i64 1))]))))
  (.call 32 [(.one (.slc [.str]))] [(.v 2 (.slc [.str]))] [(.one .bool)]
  (.ite (.v 12 .bool)
   (.ret [(.b true)])
   (.call 32 [(.one (.slc [.str]))] [(.v 3 (.slc [.str]))] [(.one .bool)]
   (.ite (.v 13 .bool)
    (.ret [(.b true)])
    (.call 32 [(.one (.slc [.str]))] [(.v 4 (.slc [.str]))] [(.one .bool)]
    (.ret [(.v 14 .bool)])))))))
def B_law02_Big : Nat → T
  | 0 => t0_law02_Big
  | _ => .dead
theorem ok_law02_Big : c_law02_Big.Ok 14 B_law02_Big := ok_of Tryd.func14 (by kernel_rfl) mixed
  (.cons (n := 100000) (by kernel_rfl) (.nil))
theorem correct_law02_Big {ds rs : List D} (h : Ev (Corr Tryd.prog lay) B_law02_Big t_law02_Big ds rs) : Corr Tryd.prog lay 14 k_law02_Big ds r_law02_Big rs :=
  correct_of ok_law02_Big (n := 100000) (t := t_law02_Big) (by kernel_rfl) (by kernel_rfl) h
noncomputable def S_law02_Big : Nat → List D → List D
  | 31, ds => s_law02_bigRule ds
  | 32, ds => s_law02_bigNames ds
  | _, _ => []
def P_law02_Big : Nat → List K → List D → List K → Prop
  | 31, ks, ds, rk => ks = k_law02_bigRule ∧ rk = r_law02_bigRule ∧ p_law02_bigRule ds
  | 32, ks, ds, rk => ks = k_law02_bigNames ∧ rk = r_law02_bigNames ∧ p_law02_bigNames ds
  | _, _, _, _ => False
theorem use_law02_Big : ∀ g ks ds rk xs, ByS P_law02_Big S_law02_Big g ks ds rk xs → Corr Tryd.prog lay g ks ds rk xs := by
  intro g ks ds rk xs h
  obtain ⟨h1, rfl⟩ := h
  unfold P_law02_Big at h1
  split at h1
  · obtain ⟨rfl, rfl, h1⟩ := h1; exact spec_law02_bigRule ds h1
  · obtain ⟨rfl, rfl, h1⟩ := h1; exact spec_law02_bigNames ds h1
  · exact h1.elim
theorem spec_of_law02_Big (law : ∀ ds, D.wts (K.tyss k_law02_Big) ds → p_law02_Big ds → Ev (ByS P_law02_Big S_law02_Big) B_law02_Big t_law02_Big ds (s_law02_Big ds)) : ∀ ds, p_law02_Big ds → Corr Tryd.prog lay 14 k_law02_Big ds r_law02_Big (s_law02_Big ds) :=
  fun ds hp => .of_wt (by decide) fun hw => correct_law02_Big ((law ds hw hp).monoC use_law02_Big)
theorem loop_law02_Big (es : List (List D)) (he : es.length ≤ maxLen) (hes : ∀ c ∈ es, D.wts [.str, .int .i64, .int .i64, .int .i64, .int .i64, .int .i64, .slc [.int .i64], .slc [.int .i64, .int .i64, .int .i64, .int .i64, .int .i64, .int .i64], .slc [.int .i64], .slc [.int .i64], .int .i64, .int .i64, .slc [.int .i64], .int .i64, .slc [.int .i64], .slc [.int .i64], .slc [.int .i64], .int .i64] c) (a0 a1 a2 a3 a4 a5 a6 a7 a8 st : D) : ∀ (m i : Nat), es.length - i = m → i ≤ es.length →
    Ev (ByS P_law02_Big S_law02_Big) B_law02_Big (B_law02_Big 0) [a0, a1, a2, a3, a4, a5, a6, a7, a8, .slc es, st, .int .i64 i] [.bool ((es.drop i).any bigRule || (bigNames a2 || (bigNames a3 || bigNames a4)))] := by
  intro m
  induction m with
  | zero =>
    intro i hm h1
    have hi : ¬ (i < es.length) := by omega
    rw [List.drop_eq_nil_iff.2 (by omega), List.any_nil, Bool.false_or]
    show Ev _ _ t0_law02_Big _ _
    simp [t0_law02_Big, P_law02_Big, S_law02_Big, k_law02_bigNames, r_law02_bigNames, s_law02_bigNames, p_law02_bigNames, K.rts, K.otyss, K.otys, CK.tyss, CK.tys, K.tyss, K.tys, Ev.call_iff, Ev.ite_iff, Ev.guard_iff, Ev.ret_iff, Ev.jump_iff, E.dens, E.denss, E.den, cmpD, arD, scmpD, ByteArray.toList_eq, hi]
    cases bigNames a2 <;> cases bigNames a3 <;> simp
  | succ m ih =>
    intro i hm h1
    have hlt : i < es.length := by omega
    have hw : IntKind.i64.wrap ((i : Int) + 1) = (i : Int) + 1 := by rw [wrap64 (by omega) (by unfold maxLen at *; omega)]
    have hnext := ih (i + 1) (by omega) (by omega)
    rw [Int.natCast_add, Int.natCast_one] at hnext
    rw [List.drop_eq_getElem_cons hlt, List.any_cons]
    obtain ⟨x_0_, _, ha, ⟨x0, rfl⟩, x_1_, _, rfl, ⟨x1, rfl⟩, x_2_, _, rfl, ⟨x2, rfl⟩, x_3_, _, rfl, ⟨x3, rfl⟩, x_4_, _, rfl, ⟨x4, rfl⟩, x_5_, _, rfl, ⟨x5, rfl⟩, x_6_, _, rfl, wx_6, x_7_, _, rfl, wx_7, x_8_, _, rfl, wx_8, x_9_, _, rfl, wx_9, x_10_, _, rfl, ⟨x10, rfl⟩, x_11_, _, rfl, ⟨x11, rfl⟩, x_12_, _, rfl, wx_12, x_13_, _, rfl, ⟨x13, rfl⟩, x_14_, _, rfl, wx_14, x_15_, _, rfl, wx_15, x_16_, _, rfl, wx_16, x_17_, _, rfl, ⟨x17, rfl⟩, rfl⟩ := hes es[i] (List.getElem_mem hlt)
    have hr : s_law02_bigRule [D.str x0, D.int .i64 x1, D.int .i64 x2, D.int .i64 x3, D.int .i64 x4, D.int .i64 x5, x_6_, x_7_, x_8_, x_9_, D.int .i64 x10, D.int .i64 x11, x_12_, D.int .i64 x13, x_14_, x_15_, x_16_, D.int .i64 x17] = [.bool (bigRule es[i])] := by rw [ha]; rfl
    generalize bigRule es[i] = c at *
    generalize (es.drop (i + 1)).any bigRule = r at *
    generalize (bigNames a2 || (bigNames a3 || bigNames a4)) = q at *
    show Ev _ _ t0_law02_Big _ _
    cases c
    · simp [t0_law02_Big, P_law02_Big, S_law02_Big, k_law02_bigRule, r_law02_bigRule, p_law02_bigRule, K.rts, K.otyss, K.otys, CK.tyss, CK.tys, K.tyss, K.tys, Ev.call_iff, Ev.ite_iff, Ev.guard_iff, Ev.ret_iff, Ev.jump_iff, E.dens, E.denss, E.den, cmpD, arD, scmpD, ByteArray.toList_eq, hlt, hw, ha, hr]
      simpa using hnext
    · simp [t0_law02_Big, P_law02_Big, S_law02_Big, k_law02_bigRule, r_law02_bigRule, p_law02_bigRule, K.rts, K.otyss, K.otys, CK.tyss, CK.tys, K.tyss, K.tys, Ev.call_iff, Ev.ite_iff, Ev.guard_iff, Ev.ret_iff, Ev.jump_iff, E.dens, E.denss, E.den, cmpD, arD, scmpD, ByteArray.toList_eq, hlt, hw, ha, hr]
theorem law_law02_Big (ds : List D) (hw : D.wts (K.tyss k_law02_Big) ds) (hp : p_law02_Big ds) : Ev (ByS P_law02_Big S_law02_Big) B_law02_Big t_law02_Big ds (s_law02_Big ds) := by
  obtain ⟨a0_, _, rfl, ⟨x0, rfl⟩, a1_, _, rfl, ⟨x1, rfl⟩, a2_, _, rfl, wa2, a3_, _, rfl, wa3, a4_, _, rfl, wa4, a5_, _, rfl, ⟨x5, rfl⟩, a6_, _, rfl, wa6, a7_, _, rfl, wa7, a8_, _, rfl, wa8, a9_, _, rfl, wa9, rfl⟩ := hw
  obtain ⟨es, rfl, he, hes⟩ := wa9
  have loop := loop_law02_Big es he hes (D.str x0) (D.int .i64 x1) (a2_) (a3_) (a4_) (D.int .i64 x5) (a6_) (a7_) (a8_) (.bool false) _ 0 rfl (Nat.zero_le _)
  rw [List.drop_zero] at loop
  simp only [s_law02_Big, bigP, over, nth, List.getD_cons_zero, List.getD_cons_succ, D.toS_str, D.toL_slc]
  unfold t_law02_Big
  simp only [K.rts, K.otyss, K.otys, CK.tyss, CK.tys, K.tyss, K.tys, Ev.call_iff, Ev.ite_iff, Ev.guard_iff, Ev.ret_iff, Ev.jump_iff, E.dens, E.denss, E.den, cmpD, arD, scmpD, ByteArray.toList_eq, List.getD_cons_zero, List.getD_cons_succ, D.toS_str, D.toI_int, D.toB_bool, D.toL_slc, decide_eq_true_eq]
  by_cases h0 : 500 < x0.size
  · rw [if_pos (by omega)]; simp [h0]
  rw [if_neg (by omega), decide_eq_false h0, Bool.false_or]
  by_cases h2 : 60 < a2_.toL.length
  · rw [if_pos (by omega)]; simp [h2]
  rw [if_neg (by omega), decide_eq_false h2, Bool.false_or]
  by_cases h3 : 60 < a3_.toL.length
  · rw [if_pos (by omega)]; simp [h3]
  rw [if_neg (by omega), decide_eq_false h3, Bool.false_or]
  by_cases h4 : 60 < a4_.toL.length
  · rw [if_pos (by omega)]; simp [h4]
  rw [if_neg (by omega), decide_eq_false h4, Bool.false_or]
  by_cases h6 : 60 < a6_.toL.length
  · rw [if_pos (by omega)]; simp [h6]
  rw [if_neg (by omega), decide_eq_false h6, Bool.false_or]
  by_cases h7 : 60 < a7_.toL.length
  · rw [if_pos (by omega)]; simp [h7]
  rw [if_neg (by omega), decide_eq_false h7, Bool.false_or]
  by_cases h8 : 60 < a8_.toL.length
  · rw [if_pos (by omega)]; simp [h8]
  rw [if_neg (by omega), decide_eq_false h8, Bool.false_or]
  by_cases h9 : 30 < es.length
  · rw [if_pos (by omega)]; simp [h9]
  rw [if_neg (by omega), decide_eq_false h9, Bool.false_or]
  exact loop

theorem spec_law02_Big : ∀ ds, p_law02_Big ds → Corr Tryd.prog lay 14 k_law02_Big ds r_law02_Big (s_law02_Big ds) := spec_of_law02_Big law_law02_Big
/- familycheck/protocol.factor -/
def k_protocol_factor : List K := [(.one (.int .i64))]
def r_protocol_factor : List K := [(.one .bool)]
def b_protocol_factor : List Blk := []
noncomputable def c_protocol_factor : Ctx := mkCtx Tryd.prog lay Tryd.f44 ⟨[], [], []⟩ k_protocol_factor r_protocol_factor [] b_protocol_factor
def t_protocol_factor : T :=
 (.ite (.cmp .geq (.v 0 (.int .i64)) (.n .i64 (-100)))
  (.ret [(.cmp .leq (.v 0 (.int .i64)) (.n .i64 100))])
  (.ret [(.b false)]))
def B_protocol_factor : Nat → T
  | _ => .dead
theorem ok_protocol_factor : c_protocol_factor.Ok 44 B_protocol_factor := ok_of Tryd.func44 (by kernel_rfl) mixed
  (.nil)
theorem correct_protocol_factor {ds rs : List D} (h : Ev (Corr Tryd.prog lay) B_protocol_factor t_protocol_factor ds rs) : Corr Tryd.prog lay 44 k_protocol_factor ds r_protocol_factor rs :=
  correct_of ok_protocol_factor (n := 100000) (t := t_protocol_factor) (by kernel_rfl) (by kernel_rfl) h
noncomputable def S_protocol_factor : Nat → List D → List D
  | _, _ => []
def P_protocol_factor : Nat → List K → List D → List K → Prop
  | _, _, _, _ => False
theorem use_protocol_factor : ∀ g ks ds rk xs, ByS P_protocol_factor S_protocol_factor g ks ds rk xs → Corr Tryd.prog lay g ks ds rk xs := by
  intro g ks ds rk xs h
  obtain ⟨h1, rfl⟩ := h
  unfold P_protocol_factor at h1
  split at h1
  · exact h1.elim
theorem spec_of_protocol_factor (law : ∀ ds, D.wts (K.tyss k_protocol_factor) ds → p_protocol_factor ds → Ev (ByS P_protocol_factor S_protocol_factor) B_protocol_factor t_protocol_factor ds (s_protocol_factor ds)) : ∀ ds, p_protocol_factor ds → Corr Tryd.prog lay 44 k_protocol_factor ds r_protocol_factor (s_protocol_factor ds) :=
  fun ds hp => .of_wt (by decide) fun hw => correct_protocol_factor ((law ds hw hp).monoC use_protocol_factor)
theorem law_protocol_factor (ds : List D) (hw : D.wts (K.tyss k_protocol_factor) ds) (hp : p_protocol_factor ds) : Ev (ByS P_protocol_factor S_protocol_factor) B_protocol_factor t_protocol_factor ds (s_protocol_factor ds) := by
  obtain ⟨a0, _, rfl, ha0, rfl⟩ := hw
  obtain ⟨x0, rfl⟩ := ha0
  simp [t_protocol_factor, s_protocol_factor, P_protocol_factor, S_protocol_factor, K.rts, K.otyss, K.otys, CK.tyss, K.tyss, K.tys, Ev.ite_iff, Ev.ret_iff, Ev.guard_iff, Ev.jump_iff, Ev.may_iff, Ev.call_iff, E.dens, E.denss, E.den, cmpD, scmpD]
  all_goals (repeat' split) <;> (try simp_all) <;> (try omega)

theorem spec_protocol_factor : ∀ ds, p_protocol_factor ds → Corr Tryd.prog lay 44 k_protocol_factor ds r_protocol_factor (s_protocol_factor ds) := spec_of_protocol_factor law_protocol_factor
/- familycheck/protocol.bounded -/
def k_protocol_bounded : List K := [(.agg [(.int .i64), (.int .i64), (.int .i64), (.int .i64)])]
def r_protocol_bounded : List K := [(.one .bool)]
def b_protocol_bounded : List Blk := []
noncomputable def c_protocol_bounded : Ctx := mkCtx Tryd.prog lay Tryd.f20 ⟨[(44, [(.one .bool)])], [], []⟩ k_protocol_bounded r_protocol_bounded [] b_protocol_bounded
def t_protocol_bounded : T :=
 (.call 44 [(.one (.int .i64))] [(.v 0 (.int .i64))] [(.one .bool)]
 (.ite (.v 4 .bool)
  (.call 44 [(.one (.int .i64))] [(.v 1 (.int .i64))] [(.one .bool)]
  (.ite (.v 5 .bool)
   (.call 44 [(.one (.int .i64))] [(.v 2 (.int .i64))] [(.one .bool)]
   (.ite (.v 6 .bool)
    (.call 44 [(.one (.int .i64))] [(.v 3 (.int .i64))] [(.one .bool)]
    (.ret [(.v 7 .bool)]))
    (.ret [(.b false)])))
   (.ret [(.b false)])))
  (.ret [(.b false)])))
def B_protocol_bounded : Nat → T
  | _ => .dead
theorem ok_protocol_bounded : c_protocol_bounded.Ok 20 B_protocol_bounded := ok_of Tryd.func20 (by kernel_rfl) mixed
  (.nil)
theorem correct_protocol_bounded {ds rs : List D} (h : Ev (Corr Tryd.prog lay) B_protocol_bounded t_protocol_bounded ds rs) : Corr Tryd.prog lay 20 k_protocol_bounded ds r_protocol_bounded rs :=
  correct_of ok_protocol_bounded (n := 100000) (t := t_protocol_bounded) (by kernel_rfl) (by kernel_rfl) h
noncomputable def S_protocol_bounded : Nat → List D → List D
  | 44, ds => s_protocol_factor ds
  | _, _ => []
def P_protocol_bounded : Nat → List K → List D → List K → Prop
  | 44, ks, ds, rk => ks = k_protocol_factor ∧ rk = r_protocol_factor ∧ p_protocol_factor ds
  | _, _, _, _ => False
theorem use_protocol_bounded : ∀ g ks ds rk xs, ByS P_protocol_bounded S_protocol_bounded g ks ds rk xs → Corr Tryd.prog lay g ks ds rk xs := by
  intro g ks ds rk xs h
  obtain ⟨h1, rfl⟩ := h
  unfold P_protocol_bounded at h1
  split at h1
  · obtain ⟨rfl, rfl, h1⟩ := h1; exact spec_protocol_factor ds h1
  · exact h1.elim
theorem spec_of_protocol_bounded (law : ∀ ds, D.wts (K.tyss k_protocol_bounded) ds → p_protocol_bounded ds → Ev (ByS P_protocol_bounded S_protocol_bounded) B_protocol_bounded t_protocol_bounded ds (s_protocol_bounded ds)) : ∀ ds, p_protocol_bounded ds → Corr Tryd.prog lay 20 k_protocol_bounded ds r_protocol_bounded (s_protocol_bounded ds) :=
  fun ds hp => .of_wt (by decide) fun hw => correct_protocol_bounded ((law ds hw hp).monoC use_protocol_bounded)
theorem law_protocol_bounded (ds : List D) (hw : D.wts (K.tyss k_protocol_bounded) ds) (hp : p_protocol_bounded ds) : Ev (ByS P_protocol_bounded S_protocol_bounded) B_protocol_bounded t_protocol_bounded ds (s_protocol_bounded ds) := by
  obtain ⟨a0, _, rfl, ha0, a1, _, rfl, ha1, a2, _, rfl, ha2, a3, _, rfl, ha3, rfl⟩ := hw
  obtain ⟨x0, rfl⟩ := ha0
  obtain ⟨x1, rfl⟩ := ha1
  obtain ⟨x2, rfl⟩ := ha2
  obtain ⟨x3, rfl⟩ := ha3
  simp [t_protocol_bounded, s_protocol_bounded, P_protocol_bounded, S_protocol_bounded, K.rts, K.otyss, K.otys, CK.tyss, K.tyss, K.tys, Ev.ite_iff, Ev.ret_iff, Ev.guard_iff, Ev.jump_iff, Ev.may_iff, Ev.call_iff, E.dens, E.denss, E.den, cmpD, scmpD, k_protocol_factor, r_protocol_factor, s_protocol_factor, p_protocol_factor, few4, fewI, small]
  all_goals (repeat' split) <;> (try simp_all) <;> (try omega)

theorem spec_protocol_bounded : ∀ ds, p_protocol_bounded ds → Corr Tryd.prog lay 20 k_protocol_bounded ds r_protocol_bounded (s_protocol_bounded ds) := spec_of_protocol_bounded law_protocol_bounded
def k_strings_Builder__copyCheck : List K := [(.obj 76 [.sp, (.gro 5 [(.int .u8)])])]
def r_strings_Builder__copyCheck : List K := []
theorem spec_strings_Builder__copyCheck : ∀ ds, p_strings_Builder__copyCheck ds → Corr Tryd.prog lay 54 k_strings_Builder__copyCheck ds r_strings_Builder__copyCheck (s_strings_Builder__copyCheck ds) := fun ds _ => corr_copyCheck (u8 := 5) copyCheck_used copyCheck_fresh ds
/- (*strings.Builder).WriteByte -/
def k_strings_Builder__WriteByte : List K := [(.obj 76 [.sp, (.gro 5 [(.int .u8)])]), (.one (.int .u8))]
def r_strings_Builder__WriteByte : List K := [.unk]
def b_strings_Builder__WriteByte : List Blk := []
noncomputable def c_strings_Builder__WriteByte : Ctx := mkCtx Tryd.prog lay Tryd.f45 ⟨[(54, [])], [(54, [some (76, [.sp, (.gro 5 [(.int .u8)])])])], []⟩ k_strings_Builder__WriteByte r_strings_Builder__WriteByte [] b_strings_Builder__WriteByte
def t_strings_Builder__WriteByte : T :=
 (.call 54 [(.obj 76 [.sp, (.gro 5 [(.int .u8)])])] [(.v 0 .bool), (.v 1 (.slc [(.int .u8)]))] []
 (.guard (.and (.cmp .leq (.len (.v 4 (.slc [(.int .u8)]))) (.n .i64 35184372088832)) (.cmp .leq (.len (.lit [(.int .u8)] [[(.v 2 (.int .u8))]])) (.n .i64 35184372088832)))
 (.ret [(.v 3 .bool), (.appAll (.v 4 (.slc [(.int .u8)])) (.lit [(.int .u8)] [[(.v 2 (.int .u8))]]))])))
def B_strings_Builder__WriteByte : Nat → T
  | _ => .dead
theorem ok_strings_Builder__WriteByte : c_strings_Builder__WriteByte.Ok 45 B_strings_Builder__WriteByte := ok_of Tryd.func45 (by kernel_rfl) mixed
  (.nil)
theorem correct_strings_Builder__WriteByte {ds rs : List D} (h : Ev (Corr Tryd.prog lay) B_strings_Builder__WriteByte t_strings_Builder__WriteByte ds rs) : Corr Tryd.prog lay 45 k_strings_Builder__WriteByte ds r_strings_Builder__WriteByte rs :=
  correct_of ok_strings_Builder__WriteByte (n := 100000) (t := t_strings_Builder__WriteByte) (by kernel_rfl) (by kernel_rfl) h
noncomputable def S_strings_Builder__WriteByte : Nat → List D → List D
  | 54, ds => s_strings_Builder__copyCheck ds
  | _, _ => []
def P_strings_Builder__WriteByte : Nat → List K → List D → List K → Prop
  | 54, ks, ds, rk => ks = k_strings_Builder__copyCheck ∧ rk = r_strings_Builder__copyCheck ∧ p_strings_Builder__copyCheck ds
  | _, _, _, _ => False
theorem use_strings_Builder__WriteByte : ∀ g ks ds rk xs, ByS P_strings_Builder__WriteByte S_strings_Builder__WriteByte g ks ds rk xs → Corr Tryd.prog lay g ks ds rk xs := by
  intro g ks ds rk xs h
  obtain ⟨h1, rfl⟩ := h
  unfold P_strings_Builder__WriteByte at h1
  split at h1
  · obtain ⟨rfl, rfl, h1⟩ := h1; exact spec_strings_Builder__copyCheck ds h1
  · exact h1.elim
theorem spec_of_strings_Builder__WriteByte (law : ∀ ds, D.wts (K.tyss k_strings_Builder__WriteByte) ds → p_strings_Builder__WriteByte ds → Ev (ByS P_strings_Builder__WriteByte S_strings_Builder__WriteByte) B_strings_Builder__WriteByte t_strings_Builder__WriteByte ds (s_strings_Builder__WriteByte ds)) : ∀ ds, p_strings_Builder__WriteByte ds → Corr Tryd.prog lay 45 k_strings_Builder__WriteByte ds r_strings_Builder__WriteByte (s_strings_Builder__WriteByte ds) :=
  fun ds hp => .of_wt (by decide) fun hw => correct_strings_Builder__WriteByte ((law ds hw hp).monoC use_strings_Builder__WriteByte)
theorem law_strings_Builder__WriteByte (ds : List D) (hw : D.wts (K.tyss k_strings_Builder__WriteByte) ds) (hp : p_strings_Builder__WriteByte ds) : Ev (ByS P_strings_Builder__WriteByte S_strings_Builder__WriteByte) B_strings_Builder__WriteByte t_strings_Builder__WriteByte ds (s_strings_Builder__WriteByte ds) := by
  obtain ⟨a0, _, rfl, ha0, a1, _, rfl, ha1, a2, _, rfl, ha2, rfl⟩ := hw
  obtain ⟨x0, rfl⟩ := ha0
  obtain ⟨x1, rfl, la1, wa1⟩ := ha1
  obtain ⟨x2, rfl⟩ := ha2
  simp [p_strings_Builder__WriteByte] at hp
  simp [t_strings_Builder__WriteByte, s_strings_Builder__WriteByte, P_strings_Builder__WriteByte, S_strings_Builder__WriteByte, k_strings_Builder__copyCheck, r_strings_Builder__copyCheck, s_strings_Builder__copyCheck, p_strings_Builder__copyCheck, K.rts, K.otyss, K.otys, CK.tyss, CK.tys, K.tyss, K.tys, Ev.ret_iff, Ev.guard_iff, Ev.call_iff, E.dens, E.denss, E.den, cmpD]
  omega

theorem spec_strings_Builder__WriteByte : ∀ ds, p_strings_Builder__WriteByte ds → Corr Tryd.prog lay 45 k_strings_Builder__WriteByte ds r_strings_Builder__WriteByte (s_strings_Builder__WriteByte ds) := spec_of_strings_Builder__WriteByte law_strings_Builder__WriteByte
def k_strconv_Itoa : List K := [(.one (.int .i64))]
def r_strconv_Itoa : List K := [(.one .str)]
theorem spec_strconv_Itoa : ∀ ds, p_strconv_Itoa ds → Corr Tryd.prog lay 48 k_strconv_Itoa ds r_strconv_Itoa (s_strconv_Itoa ds) := fun ds hp => corr_Itoa (u := ("internal/strconv.uint64pow10", .u64, Lib.pow10Tab)) (fun w h => (show ∀ x ∈ tables, Lib.TabIs Tryd.prog w x.1 x.2.1 x.2.2 from h) _ (by simp [tables])) (fun n w h0 h1 ht => Tryd.strconv_Itoa n h0 h1 w ht) ds hp
/- (*strings.Builder).WriteString -/
def k_strings_Builder__WriteString : List K := [(.obj 76 [.sp, (.gro 5 [(.int .u8)])]), (.one .str)]
def r_strings_Builder__WriteString : List K := [(.one (.int .i64)), .unk]
def b_strings_Builder__WriteString : List Blk := []
noncomputable def c_strings_Builder__WriteString : Ctx := mkCtx Tryd.prog lay Tryd.f47 ⟨[(54, [])], [(54, [some (76, [.sp, (.gro 5 [(.int .u8)])])])], []⟩ k_strings_Builder__WriteString r_strings_Builder__WriteString [] b_strings_Builder__WriteString
def t_strings_Builder__WriteString : T :=
 (.call 54 [(.obj 76 [.sp, (.gro 5 [(.int .u8)])])] [(.v 0 .bool), (.v 1 (.slc [(.int .u8)]))] []
 (.guard (.and (.cmp .leq (.len (.v 4 (.slc [(.int .u8)]))) (.n .i64 35184372088832)) (.cmp .leq (.len (.bytes (.v 2 .str))) (.n .i64 35184372088832)))
 (.ret [(.slen (.v 2 .str)), (.v 3 .bool), (.appAll (.v 4 (.slc [(.int .u8)])) (.bytes (.v 2 .str)))])))
def B_strings_Builder__WriteString : Nat → T
  | _ => .dead
theorem ok_strings_Builder__WriteString : c_strings_Builder__WriteString.Ok 47 B_strings_Builder__WriteString := ok_of Tryd.func47 (by kernel_rfl) mixed
  (.nil)
theorem correct_strings_Builder__WriteString {ds rs : List D} (h : Ev (Corr Tryd.prog lay) B_strings_Builder__WriteString t_strings_Builder__WriteString ds rs) : Corr Tryd.prog lay 47 k_strings_Builder__WriteString ds r_strings_Builder__WriteString rs :=
  correct_of ok_strings_Builder__WriteString (n := 100000) (t := t_strings_Builder__WriteString) (by kernel_rfl) (by kernel_rfl) h
noncomputable def S_strings_Builder__WriteString : Nat → List D → List D
  | 54, ds => s_strings_Builder__copyCheck ds
  | _, _ => []
def P_strings_Builder__WriteString : Nat → List K → List D → List K → Prop
  | 54, ks, ds, rk => ks = k_strings_Builder__copyCheck ∧ rk = r_strings_Builder__copyCheck ∧ p_strings_Builder__copyCheck ds
  | _, _, _, _ => False
theorem use_strings_Builder__WriteString : ∀ g ks ds rk xs, ByS P_strings_Builder__WriteString S_strings_Builder__WriteString g ks ds rk xs → Corr Tryd.prog lay g ks ds rk xs := by
  intro g ks ds rk xs h
  obtain ⟨h1, rfl⟩ := h
  unfold P_strings_Builder__WriteString at h1
  split at h1
  · obtain ⟨rfl, rfl, h1⟩ := h1; exact spec_strings_Builder__copyCheck ds h1
  · exact h1.elim
theorem spec_of_strings_Builder__WriteString (law : ∀ ds, D.wts (K.tyss k_strings_Builder__WriteString) ds → p_strings_Builder__WriteString ds → Ev (ByS P_strings_Builder__WriteString S_strings_Builder__WriteString) B_strings_Builder__WriteString t_strings_Builder__WriteString ds (s_strings_Builder__WriteString ds)) : ∀ ds, p_strings_Builder__WriteString ds → Corr Tryd.prog lay 47 k_strings_Builder__WriteString ds r_strings_Builder__WriteString (s_strings_Builder__WriteString ds) :=
  fun ds hp => .of_wt (by decide) fun hw => correct_strings_Builder__WriteString ((law ds hw hp).monoC use_strings_Builder__WriteString)
theorem law_strings_Builder__WriteString (ds : List D) (hw : D.wts (K.tyss k_strings_Builder__WriteString) ds) (hp : p_strings_Builder__WriteString ds) : Ev (ByS P_strings_Builder__WriteString S_strings_Builder__WriteString) B_strings_Builder__WriteString t_strings_Builder__WriteString ds (s_strings_Builder__WriteString ds) := by
  obtain ⟨a0, _, rfl, ha0, a1, _, rfl, ha1, a2, _, rfl, ha2, rfl⟩ := hw
  obtain ⟨x0, rfl⟩ := ha0
  obtain ⟨x1, rfl, la1, wa1⟩ := ha1
  obtain ⟨x2, rfl⟩ := ha2
  simp [p_strings_Builder__WriteString] at hp
  simp [t_strings_Builder__WriteString, s_strings_Builder__WriteString, P_strings_Builder__WriteString, S_strings_Builder__WriteString, k_strings_Builder__copyCheck, r_strings_Builder__copyCheck, s_strings_Builder__copyCheck, p_strings_Builder__copyCheck, K.rts, K.otyss, K.otys, CK.tyss, CK.tys, K.tyss, K.tys, Ev.ret_iff, Ev.guard_iff, Ev.call_iff, E.dens, E.denss, E.den, cmpD, bytesD]
  omega

theorem spec_strings_Builder__WriteString : ∀ ds, p_strings_Builder__WriteString ds → Corr Tryd.prog lay 47 k_strings_Builder__WriteString ds r_strings_Builder__WriteString (s_strings_Builder__WriteString ds) := spec_of_strings_Builder__WriteString law_strings_Builder__WriteString
/- (*strings.Builder).Len -/
def k_strings_Builder__Len : List K := [(.obj 76 [.sp, (.gro 5 [(.int .u8)])])]
def r_strings_Builder__Len : List K := [(.one (.int .i64))]
def b_strings_Builder__Len : List Blk := []
noncomputable def c_strings_Builder__Len : Ctx := mkCtx Tryd.prog lay Tryd.f46 ⟨[], [], []⟩ k_strings_Builder__Len r_strings_Builder__Len [] b_strings_Builder__Len
def t_strings_Builder__Len : T :=
 (.ret [(.len (.v 1 (.slc [(.int .u8)]))), (.v 0 .bool), (.v 1 (.slc [(.int .u8)]))])
def B_strings_Builder__Len : Nat → T
  | _ => .dead
theorem ok_strings_Builder__Len : c_strings_Builder__Len.Ok 46 B_strings_Builder__Len := ok_of Tryd.func46 (by kernel_rfl) mixed
  (.nil)
theorem correct_strings_Builder__Len {ds rs : List D} (h : Ev (Corr Tryd.prog lay) B_strings_Builder__Len t_strings_Builder__Len ds rs) : Corr Tryd.prog lay 46 k_strings_Builder__Len ds r_strings_Builder__Len rs :=
  correct_of ok_strings_Builder__Len (n := 100000) (t := t_strings_Builder__Len) (by kernel_rfl) (by kernel_rfl) h
noncomputable def S_strings_Builder__Len : Nat → List D → List D
  | _, _ => []
def P_strings_Builder__Len : Nat → List K → List D → List K → Prop
  | _, _, _, _ => False
theorem use_strings_Builder__Len : ∀ g ks ds rk xs, ByS P_strings_Builder__Len S_strings_Builder__Len g ks ds rk xs → Corr Tryd.prog lay g ks ds rk xs := by
  intro g ks ds rk xs h
  obtain ⟨h1, rfl⟩ := h
  unfold P_strings_Builder__Len at h1
  split at h1
  · exact h1.elim
theorem spec_of_strings_Builder__Len (law : ∀ ds, D.wts (K.tyss k_strings_Builder__Len) ds → p_strings_Builder__Len ds → Ev (ByS P_strings_Builder__Len S_strings_Builder__Len) B_strings_Builder__Len t_strings_Builder__Len ds (s_strings_Builder__Len ds)) : ∀ ds, p_strings_Builder__Len ds → Corr Tryd.prog lay 46 k_strings_Builder__Len ds r_strings_Builder__Len (s_strings_Builder__Len ds) :=
  fun ds hp => .of_wt (by decide) fun hw => correct_strings_Builder__Len ((law ds hw hp).monoC use_strings_Builder__Len)
theorem law_strings_Builder__Len (ds : List D) (hw : D.wts (K.tyss k_strings_Builder__Len) ds) (hp : p_strings_Builder__Len ds) : Ev (ByS P_strings_Builder__Len S_strings_Builder__Len) B_strings_Builder__Len t_strings_Builder__Len ds (s_strings_Builder__Len ds) := by
  obtain ⟨a0, _, rfl, ha0, a1, _, rfl, ha1, rfl⟩ := hw
  obtain ⟨x0, rfl⟩ := ha0
  obtain ⟨x1, rfl, la1, wa1⟩ := ha1
  simp [t_strings_Builder__Len, s_strings_Builder__Len, Ev.ret_iff, E.dens, E.den]

theorem spec_strings_Builder__Len : ∀ ds, p_strings_Builder__Len ds → Corr Tryd.prog lay 46 k_strings_Builder__Len ds r_strings_Builder__Len (s_strings_Builder__Len ds) := spec_of_strings_Builder__Len law_strings_Builder__Len
def k_strings_Builder__String : List K := [(.obj 76 [.sp, (.gro 5 [(.int .u8)])])]
def r_strings_Builder__String : List K := [(.one .str)]
theorem spec_strings_Builder__String : ∀ ds, p_strings_Builder__String ds → Corr Tryd.prog lay 49 k_strings_Builder__String ds r_strings_Builder__String (s_strings_Builder__String ds) := fun ds hp => corr_String (u8 := 5) string_run ds hp
/- familycheck/protocol.FormatLinear -/
def k_protocol_FormatLinear : List K := [(.agg [(.int .i64), (.int .i64), (.int .i64), (.int .i64)])]
def r_protocol_FormatLinear : List K := [(.one .str)]
def b_protocol_FormatLinear : List Blk := [{ st := [.code [0, 0, 0, 1, 0, 1, 1, 1], .code [1, 0, 0, 1, 0, 1, 1, 1], .inLoop [0, 1, 0, 1, 1, 1], .inBlock 0, .code [1, 1, 1, 1]], σ := { t := [(2, (.sc (.v 6 .str))), (3, (.ptr 2 0)), (22, (.sc (.v 7 (.slc [(.int .i64), .str])))), (23, (.sc (.v 8 (.int .i64)))), (24, (.sc (.v 9 (.int .i64))))], o := [(.box 23 [(.sc (.v 1 (.int .i64))), (.sc (.v 2 (.int .i64))), (.sc (.v 3 (.int .i64))), (.sc (.v 4 (.int .i64)))]), (.tok 5 1 (.v 0 (.slc [(.int .u8)]))), (.box 76 [(.sp 2 (.v 5 .bool)), (.gro 1 (.v 0 (.slc [(.int .u8)])))])] }, tys := [(.slc [(.int .u8)]), (.int .i64), (.int .i64), (.int .i64), (.int .i64), .bool, .str, (.slc [(.int .i64), .str]), (.int .i64), (.int .i64)] }]
noncomputable def c_protocol_FormatLinear : Ctx := mkCtx Tryd.prog lay Tryd.f24 ⟨[(20, [(.one .bool)]), (45, [.unk]), (46, [(.one (.int .i64))]), (47, [(.one (.int .i64)), .unk]), (48, [(.one .str)]), (49, [(.one .str)])], [(45, [some (76, [.sp, (.gro 5 [(.int .u8)])])]), (46, [some (76, [.sp, (.gro 5 [(.int .u8)])])]), (47, [some (76, [.sp, (.gro 5 [(.int .u8)])])]), (49, [some (76, [.sp, (.gro 5 [(.int .u8)])])])], [3]⟩ k_protocol_FormatLinear r_protocol_FormatLinear [(5, 0)] b_protocol_FormatLinear
def t_protocol_FormatLinear : T :=
 (.call 20 [(.agg [(.int .i64), (.int .i64), (.int .i64), (.int .i64)])] [(.v 0 (.int .i64)), (.v 1 (.int .i64)), (.v 2 (.int .i64)), (.v 3 (.int .i64))] [(.one .bool)]
 (.ite (.not (.v 4 .bool))
  (.ret [(.s ⟨#[]⟩)])
  (.jump 0 [(.lit [(.int .u8)] []), (.v 0 (.int .i64)), (.v 1 (.int .i64)), (.v 2 (.int .i64)), (.v 3 (.int .i64)), (.b false), (.s ⟨#[]⟩), (.lit [(.int .i64), .str] [[(.v 1 (.int .i64)), (.s ⟨#[110]⟩)], [(.v 2 (.int .i64)), (.s ⟨#[116]⟩)], [(.v 3 (.int .i64)), (.s ⟨#[102]⟩)], [(.v 0 (.int .i64)), (.s ⟨#[]⟩)]]), (.len (.lit [(.int .i64), .str] [[(.v 1 (.int .i64)), (.s ⟨#[110]⟩)], [(.v 2 (.int .i64)), (.s ⟨#[116]⟩)], [(.v 3 (.int .i64)), (.s ⟨#[102]⟩)], [(.v 0 (.int .i64)), (.s ⟨#[]⟩)]])), (.n .i64 0)])))
def t0_protocol_FormatLinear : T :=
 (.ite (.cmp .lss (.v 9 (.int .i64)) (.v 8 (.int .i64)))
  (.guard (.and (.cmp .geq (.v 9 (.int .i64)) (.n .i64 0)) (.cmp .lss (.v 9 (.int .i64)) (.len (.v 7 (.slc [(.int .i64), .str])))))
  (.ite (.cmp .eql (.cell (.v 7 (.slc [(.int .i64), .str])) (.v 9 (.int .i64)) 0 (.int .i64)) (.n .i64 0))
   (.jump 0 [(.v 0 (.slc [(.int .u8)])), (.v 1 (.int .i64)), (.v 2 (.int .i64)), (.v 3 (.int .i64)), (.v 4 (.int .i64)), (.v 5 .bool), (.v 6 .str), (.v 7 (.slc [(.int .i64), .str])), (.v 8 (.int .i64)), (.ar .add .i64 (.v 9 (.int .i64)) (.n .i64 1))])
   (.ite (.cmp .lss (.cell (.v 7 (.slc [(.int .i64), .str])) (.v 9 (.int .i64)) 0 (.int .i64)) (.n .i64 0))
    (.call 45 [(.obj 76 [.sp, (.gro 5 [(.int .u8)])]), (.one (.int .u8))] [(.v 5 .bool), (.v 0 (.slc [(.int .u8)])), (.n .u8 45)] [.unk]
    (.ite (.scmp .eql (.cell (.v 7 (.slc [(.int .i64), .str])) (.v 9 (.int .i64)) 1 .str) (.s ⟨#[]⟩))
     (.call 48 [(.one (.int .i64))] [(.ite (.cmp .gtr (.neg .i64 (.cell (.v 7 (.slc [(.int .i64), .str])) (.v 9 (.int .i64)) 0 (.int .i64))) (.cell (.v 7 (.slc [(.int .i64), .str])) (.v 9 (.int .i64)) 0 (.int .i64))) (.neg .i64 (.cell (.v 7 (.slc [(.int .i64), .str])) (.v 9 (.int .i64)) 0 (.int .i64))) (.cell (.v 7 (.slc [(.int .i64), .str])) (.v 9 (.int .i64)) 0 (.int .i64)))] [(.one .str)]
     (.call 47 [(.obj 76 [.sp, (.gro 5 [(.int .u8)])]), (.one .str)] [(.v 10 .bool), (.v 11 (.slc [(.int .u8)])), (.v 12 .str)] [(.one (.int .i64)), .unk]
     (.jump 0 [(.v 15 (.slc [(.int .u8)])), (.v 1 (.int .i64)), (.v 2 (.int .i64)), (.v 3 (.int .i64)), (.v 4 (.int .i64)), (.v 14 .bool), (.v 6 .str), (.v 7 (.slc [(.int .i64), .str])), (.v 8 (.int .i64)), (.ar .add .i64 (.v 9 (.int .i64)) (.n .i64 1))])))
     (.ite (.cmp .eql (.ite (.cmp .gtr (.neg .i64 (.cell (.v 7 (.slc [(.int .i64), .str])) (.v 9 (.int .i64)) 0 (.int .i64))) (.cell (.v 7 (.slc [(.int .i64), .str])) (.v 9 (.int .i64)) 0 (.int .i64))) (.neg .i64 (.cell (.v 7 (.slc [(.int .i64), .str])) (.v 9 (.int .i64)) 0 (.int .i64))) (.cell (.v 7 (.slc [(.int .i64), .str])) (.v 9 (.int .i64)) 0 (.int .i64))) (.n .i64 1))
      (.call 47 [(.obj 76 [.sp, (.gro 5 [(.int .u8)])]), (.one .str)] [(.v 10 .bool), (.v 11 (.slc [(.int .u8)])), (.cell (.v 7 (.slc [(.int .i64), .str])) (.v 9 (.int .i64)) 1 .str)] [(.one (.int .i64)), .unk]
      (.jump 0 [(.v 14 (.slc [(.int .u8)])), (.v 1 (.int .i64)), (.v 2 (.int .i64)), (.v 3 (.int .i64)), (.v 4 (.int .i64)), (.v 13 .bool), (.v 6 .str), (.v 7 (.slc [(.int .i64), .str])), (.v 8 (.int .i64)), (.ar .add .i64 (.v 9 (.int .i64)) (.n .i64 1))]))
      (.call 48 [(.one (.int .i64))] [(.ite (.cmp .gtr (.neg .i64 (.cell (.v 7 (.slc [(.int .i64), .str])) (.v 9 (.int .i64)) 0 (.int .i64))) (.cell (.v 7 (.slc [(.int .i64), .str])) (.v 9 (.int .i64)) 0 (.int .i64))) (.neg .i64 (.cell (.v 7 (.slc [(.int .i64), .str])) (.v 9 (.int .i64)) 0 (.int .i64))) (.cell (.v 7 (.slc [(.int .i64), .str])) (.v 9 (.int .i64)) 0 (.int .i64)))] [(.one .str)]
      (.guard (.catOk (.v 12 .str) (.s ⟨#[42]⟩))
      (.guard (.catOk (.cat (.v 12 .str) (.s ⟨#[42]⟩)) (.cell (.v 7 (.slc [(.int .i64), .str])) (.v 9 (.int .i64)) 1 .str))
      (.call 47 [(.obj 76 [.sp, (.gro 5 [(.int .u8)])]), (.one .str)] [(.v 10 .bool), (.v 11 (.slc [(.int .u8)])), (.cat (.cat (.v 12 .str) (.s ⟨#[42]⟩)) (.cell (.v 7 (.slc [(.int .i64), .str])) (.v 9 (.int .i64)) 1 .str))] [(.one (.int .i64)), .unk]
      (.jump 0 [(.v 15 (.slc [(.int .u8)])), (.v 1 (.int .i64)), (.v 2 (.int .i64)), (.v 3 (.int .i64)), (.v 4 (.int .i64)), (.v 14 .bool), (.v 6 .str), (.v 7 (.slc [(.int .i64), .str])), (.v 8 (.int .i64)), (.ar .add .i64 (.v 9 (.int .i64)) (.n .i64 1))]))))))))
    (.call 46 [(.obj 76 [.sp, (.gro 5 [(.int .u8)])])] [(.v 5 .bool), (.v 0 (.slc [(.int .u8)]))] [(.one (.int .i64))]
    (.ite (.cmp .gtr (.v 10 (.int .i64)) (.n .i64 0))
     (.call 45 [(.obj 76 [.sp, (.gro 5 [(.int .u8)])]), (.one (.int .u8))] [(.v 11 .bool), (.v 12 (.slc [(.int .u8)])), (.n .u8 43)] [.unk]
     (.ite (.scmp .eql (.cell (.v 7 (.slc [(.int .i64), .str])) (.v 9 (.int .i64)) 1 .str) (.s ⟨#[]⟩))
      (.call 48 [(.one (.int .i64))] [(.ite (.cmp .gtr (.neg .i64 (.cell (.v 7 (.slc [(.int .i64), .str])) (.v 9 (.int .i64)) 0 (.int .i64))) (.cell (.v 7 (.slc [(.int .i64), .str])) (.v 9 (.int .i64)) 0 (.int .i64))) (.neg .i64 (.cell (.v 7 (.slc [(.int .i64), .str])) (.v 9 (.int .i64)) 0 (.int .i64))) (.cell (.v 7 (.slc [(.int .i64), .str])) (.v 9 (.int .i64)) 0 (.int .i64)))] [(.one .str)]
      (.call 47 [(.obj 76 [.sp, (.gro 5 [(.int .u8)])]), (.one .str)] [(.v 13 .bool), (.v 14 (.slc [(.int .u8)])), (.v 15 .str)] [(.one (.int .i64)), .unk]
      (.jump 0 [(.v 18 (.slc [(.int .u8)])), (.v 1 (.int .i64)), (.v 2 (.int .i64)), (.v 3 (.int .i64)), (.v 4 (.int .i64)), (.v 17 .bool), (.v 6 .str), (.v 7 (.slc [(.int .i64), .str])), (.v 8 (.int .i64)), (.ar .add .i64 (.v 9 (.int .i64)) (.n .i64 1))])))
      (.ite (.cmp .eql (.ite (.cmp .gtr (.neg .i64 (.cell (.v 7 (.slc [(.int .i64), .str])) (.v 9 (.int .i64)) 0 (.int .i64))) (.cell (.v 7 (.slc [(.int .i64), .str])) (.v 9 (.int .i64)) 0 (.int .i64))) (.neg .i64 (.cell (.v 7 (.slc [(.int .i64), .str])) (.v 9 (.int .i64)) 0 (.int .i64))) (.cell (.v 7 (.slc [(.int .i64), .str])) (.v 9 (.int .i64)) 0 (.int .i64))) (.n .i64 1))
       (.call 47 [(.obj 76 [.sp, (.gro 5 [(.int .u8)])]), (.one .str)] [(.v 13 .bool), (.v 14 (.slc [(.int .u8)])), (.cell (.v 7 (.slc [(.int .i64), .str])) (.v 9 (.int .i64)) 1 .str)] [(.one (.int .i64)), .unk]
       (.jump 0 [(.v 17 (.slc [(.int .u8)])), (.v 1 (.int .i64)), (.v 2 (.int .i64)), (.v 3 (.int .i64)), (.v 4 (.int .i64)), (.v 16 .bool), (.v 6 .str), (.v 7 (.slc [(.int .i64), .str])), (.v 8 (.int .i64)), (.ar .add .i64 (.v 9 (.int .i64)) (.n .i64 1))]))
       (.call 48 [(.one (.int .i64))] [(.ite (.cmp .gtr (.neg .i64 (.cell (.v 7 (.slc [(.int .i64), .str])) (.v 9 (.int .i64)) 0 (.int .i64))) (.cell (.v 7 (.slc [(.int .i64), .str])) (.v 9 (.int .i64)) 0 (.int .i64))) (.neg .i64 (.cell (.v 7 (.slc [(.int .i64), .str])) (.v 9 (.int .i64)) 0 (.int .i64))) (.cell (.v 7 (.slc [(.int .i64), .str])) (.v 9 (.int .i64)) 0 (.int .i64)))] [(.one .str)]
       (.guard (.catOk (.v 15 .str) (.s ⟨#[42]⟩))
       (.guard (.catOk (.cat (.v 15 .str) (.s ⟨#[42]⟩)) (.cell (.v 7 (.slc [(.int .i64), .str])) (.v 9 (.int .i64)) 1 .str))
       (.call 47 [(.obj 76 [.sp, (.gro 5 [(.int .u8)])]), (.one .str)] [(.v 13 .bool), (.v 14 (.slc [(.int .u8)])), (.cat (.cat (.v 15 .str) (.s ⟨#[42]⟩)) (.cell (.v 7 (.slc [(.int .i64), .str])) (.v 9 (.int .i64)) 1 .str))] [(.one (.int .i64)), .unk]
       (.jump 0 [(.v 18 (.slc [(.int .u8)])), (.v 1 (.int .i64)), (.v 2 (.int .i64)), (.v 3 (.int .i64)), (.v 4 (.int .i64)), (.v 17 .bool), (.v 6 .str), (.v 7 (.slc [(.int .i64), .str])), (.v 8 (.int .i64)), (.ar .add .i64 (.v 9 (.int .i64)) (.n .i64 1))]))))))))
     (.ite (.scmp .eql (.cell (.v 7 (.slc [(.int .i64), .str])) (.v 9 (.int .i64)) 1 .str) (.s ⟨#[]⟩))
      (.call 48 [(.one (.int .i64))] [(.ite (.cmp .gtr (.neg .i64 (.cell (.v 7 (.slc [(.int .i64), .str])) (.v 9 (.int .i64)) 0 (.int .i64))) (.cell (.v 7 (.slc [(.int .i64), .str])) (.v 9 (.int .i64)) 0 (.int .i64))) (.neg .i64 (.cell (.v 7 (.slc [(.int .i64), .str])) (.v 9 (.int .i64)) 0 (.int .i64))) (.cell (.v 7 (.slc [(.int .i64), .str])) (.v 9 (.int .i64)) 0 (.int .i64)))] [(.one .str)]
      (.call 47 [(.obj 76 [.sp, (.gro 5 [(.int .u8)])]), (.one .str)] [(.v 11 .bool), (.v 12 (.slc [(.int .u8)])), (.v 13 .str)] [(.one (.int .i64)), .unk]
      (.jump 0 [(.v 16 (.slc [(.int .u8)])), (.v 1 (.int .i64)), (.v 2 (.int .i64)), (.v 3 (.int .i64)), (.v 4 (.int .i64)), (.v 15 .bool), (.v 6 .str), (.v 7 (.slc [(.int .i64), .str])), (.v 8 (.int .i64)), (.ar .add .i64 (.v 9 (.int .i64)) (.n .i64 1))])))
      (.ite (.cmp .eql (.ite (.cmp .gtr (.neg .i64 (.cell (.v 7 (.slc [(.int .i64), .str])) (.v 9 (.int .i64)) 0 (.int .i64))) (.cell (.v 7 (.slc [(.int .i64), .str])) (.v 9 (.int .i64)) 0 (.int .i64))) (.neg .i64 (.cell (.v 7 (.slc [(.int .i64), .str])) (.v 9 (.int .i64)) 0 (.int .i64))) (.cell (.v 7 (.slc [(.int .i64), .str])) (.v 9 (.int .i64)) 0 (.int .i64))) (.n .i64 1))
       (.call 47 [(.obj 76 [.sp, (.gro 5 [(.int .u8)])]), (.one .str)] [(.v 11 .bool), (.v 12 (.slc [(.int .u8)])), (.cell (.v 7 (.slc [(.int .i64), .str])) (.v 9 (.int .i64)) 1 .str)] [(.one (.int .i64)), .unk]
       (.jump 0 [(.v 15 (.slc [(.int .u8)])), (.v 1 (.int .i64)), (.v 2 (.int .i64)), (.v 3 (.int .i64)), (.v 4 (.int .i64)), (.v 14 .bool), (.v 6 .str), (.v 7 (.slc [(.int .i64), .str])), (.v 8 (.int .i64)), (.ar .add .i64 (.v 9 (.int .i64)) (.n .i64 1))]))
       (.call 48 [(.one (.int .i64))] [(.ite (.cmp .gtr (.neg .i64 (.cell (.v 7 (.slc [(.int .i64), .str])) (.v 9 (.int .i64)) 0 (.int .i64))) (.cell (.v 7 (.slc [(.int .i64), .str])) (.v 9 (.int .i64)) 0 (.int .i64))) (.neg .i64 (.cell (.v 7 (.slc [(.int .i64), .str])) (.v 9 (.int .i64)) 0 (.int .i64))) (.cell (.v 7 (.slc [(.int .i64), .str])) (.v 9 (.int .i64)) 0 (.int .i64)))] [(.one .str)]
       (.guard (.catOk (.v 13 .str) (.s ⟨#[42]⟩))
       (.guard (.catOk (.cat (.v 13 .str) (.s ⟨#[42]⟩)) (.cell (.v 7 (.slc [(.int .i64), .str])) (.v 9 (.int .i64)) 1 .str))
       (.call 47 [(.obj 76 [.sp, (.gro 5 [(.int .u8)])]), (.one .str)] [(.v 11 .bool), (.v 12 (.slc [(.int .u8)])), (.cat (.cat (.v 13 .str) (.s ⟨#[42]⟩)) (.cell (.v 7 (.slc [(.int .i64), .str])) (.v 9 (.int .i64)) 1 .str))] [(.one (.int .i64)), .unk]
       (.jump 0 [(.v 16 (.slc [(.int .u8)])), (.v 1 (.int .i64)), (.v 2 (.int .i64)), (.v 3 (.int .i64)), (.v 4 (.int .i64)), (.v 15 .bool), (.v 6 .str), (.v 7 (.slc [(.int .i64), .str])), (.v 8 (.int .i64)), (.ar .add .i64 (.v 9 (.int .i64)) (.n .i64 1))]))))))))))))
  (.call 46 [(.obj 76 [.sp, (.gro 5 [(.int .u8)])])] [(.v 5 .bool), (.v 0 (.slc [(.int .u8)]))] [(.one (.int .i64))]
  (.ite (.cmp .eql (.v 10 (.int .i64)) (.n .i64 0))
   (.ret [(.s ⟨#[48]⟩)])
   (.call 49 [(.obj 76 [.sp, (.gro 5 [(.int .u8)])])] [(.v 11 .bool), (.v 12 (.slc [(.int .u8)]))] [(.one .str)]
   (.ret [(.v 13 .str)])))))
def B_protocol_FormatLinear : Nat → T
  | 0 => t0_protocol_FormatLinear
  | _ => .dead
theorem ok_protocol_FormatLinear : c_protocol_FormatLinear.Ok 24 B_protocol_FormatLinear := ok_of Tryd.func24 (by kernel_rfl) mixed
  (.cons (n := 100000) (by kernel_rfl) (.nil))
theorem correct_protocol_FormatLinear {ds rs : List D} (h : Ev (Corr Tryd.prog lay) B_protocol_FormatLinear t_protocol_FormatLinear ds rs) : Corr Tryd.prog lay 24 k_protocol_FormatLinear ds r_protocol_FormatLinear rs :=
  correct_of ok_protocol_FormatLinear (n := 100000) (t := t_protocol_FormatLinear) (by kernel_rfl) (by kernel_rfl) h
noncomputable def S_protocol_FormatLinear : Nat → List D → List D
  | 20, ds => s_protocol_bounded ds
  | 45, ds => s_strings_Builder__WriteByte ds
  | 48, ds => s_strconv_Itoa ds
  | 47, ds => s_strings_Builder__WriteString ds
  | 46, ds => s_strings_Builder__Len ds
  | 49, ds => s_strings_Builder__String ds
  | _, _ => []
def P_protocol_FormatLinear : Nat → List K → List D → List K → Prop
  | 20, ks, ds, rk => ks = k_protocol_bounded ∧ rk = r_protocol_bounded ∧ p_protocol_bounded ds
  | 45, ks, ds, rk => ks = k_strings_Builder__WriteByte ∧ rk = r_strings_Builder__WriteByte ∧ p_strings_Builder__WriteByte ds
  | 48, ks, ds, rk => ks = k_strconv_Itoa ∧ rk = r_strconv_Itoa ∧ p_strconv_Itoa ds
  | 47, ks, ds, rk => ks = k_strings_Builder__WriteString ∧ rk = r_strings_Builder__WriteString ∧ p_strings_Builder__WriteString ds
  | 46, ks, ds, rk => ks = k_strings_Builder__Len ∧ rk = r_strings_Builder__Len ∧ p_strings_Builder__Len ds
  | 49, ks, ds, rk => ks = k_strings_Builder__String ∧ rk = r_strings_Builder__String ∧ p_strings_Builder__String ds
  | _, _, _, _ => False
theorem use_protocol_FormatLinear : ∀ g ks ds rk xs, ByS P_protocol_FormatLinear S_protocol_FormatLinear g ks ds rk xs → Corr Tryd.prog lay g ks ds rk xs := by
  intro g ks ds rk xs h
  obtain ⟨h1, rfl⟩ := h
  unfold P_protocol_FormatLinear at h1
  split at h1
  · obtain ⟨rfl, rfl, h1⟩ := h1; exact spec_protocol_bounded ds h1
  · obtain ⟨rfl, rfl, h1⟩ := h1; exact spec_strings_Builder__WriteByte ds h1
  · obtain ⟨rfl, rfl, h1⟩ := h1; exact spec_strconv_Itoa ds h1
  · obtain ⟨rfl, rfl, h1⟩ := h1; exact spec_strings_Builder__WriteString ds h1
  · obtain ⟨rfl, rfl, h1⟩ := h1; exact spec_strings_Builder__Len ds h1
  · obtain ⟨rfl, rfl, h1⟩ := h1; exact spec_strings_Builder__String ds h1
  · exact h1.elim
theorem spec_of_protocol_FormatLinear (law : ∀ ds, D.wts (K.tyss k_protocol_FormatLinear) ds → p_protocol_FormatLinear ds → Ev (ByS P_protocol_FormatLinear S_protocol_FormatLinear) B_protocol_FormatLinear t_protocol_FormatLinear ds (s_protocol_FormatLinear ds)) : ∀ ds, p_protocol_FormatLinear ds → Corr Tryd.prog lay 24 k_protocol_FormatLinear ds r_protocol_FormatLinear (s_protocol_FormatLinear ds) :=
  fun ds hp => .of_wt (by decide) fun hw => correct_protocol_FormatLinear ((law ds hw hp).monoC use_protocol_FormatLinear)
theorem guard_catOk {C : Nat → List K → List D → List K → List D → Prop} {B : Nat → T} {a b : E} {t : T} {η : Env} {rs : List D} : Ev C B (.guard (.catOk a b) t) η rs ↔ ((a.den η).toS.size + (b.den η).toS.size ≤ 9223372036854775807) ∧ Ev C B t η rs := by
  rw [Ev.guard_iff]
  simp only [E.den, D.toB_bool, decide_eq_true_eq]
  constructor
  · rintro ⟨h, h'⟩; exact ⟨by omega, h'⟩
  · rintro ⟨h, h'⟩; exact ⟨by omega, h'⟩
theorem fmt_max {η : Env} {e : E} {x : Int} (h : E.den η e = .int .i64 x) (hx : small x) : E.den η (.ite (.cmp .gtr (.neg .i64 e) e) (.neg .i64 e) e) = .int .i64 x.natAbs := by
  unfold small at hx
  have hw : IntKind.i64.wrap (0 - x) = -x := by rw [wrap64 (by omega) (by omega)]; omega
  simp only [E.den, h, D.toI, hw, cmpD, D.toB_bool, decide_eq_true_eq]
  split
  · congr 1; omega
  · congr 1; omega
set_option maxRecDepth 20000 in
theorem step_protocol_FormatLinear (R : List (List D)) (i : Nat) (acc : List UInt8) (x : Int) (nm : List UInt8) (hR : R.getD i [] = [.int .i64 x, .str ⟨nm.toArray⟩]) (hi : i < 4) (hl : R.length = 4) (hacc : acc.length ≤ 200) (hx : small x) (hnm : nm.length ≤ 1) (a1 a2 a3 a4 s6 : D) (bb : Bool) (rs : List D)
    (next : ∀ b', Ev (ByS P_protocol_FormatLinear S_protocol_FormatLinear) B_protocol_FormatLinear (B_protocol_FormatLinear 0) [.slc (bytesD (fmtTerm acc x nm)), a1, a2, a3, a4, .bool b', s6, .slc R, .int .i64 4, .int .i64 (i + 1 : Nat)] rs) :
    Ev (ByS P_protocol_FormatLinear S_protocol_FormatLinear) B_protocol_FormatLinear (B_protocol_FormatLinear 0) [.slc (bytesD acc), a1, a2, a3, a4, .bool bb, s6, .slc R, .int .i64 4, .int .i64 i] rs := by
  have hw : IntKind.i64.wrap ((i : Int) + 1) = (i : Int) + 1 := by rw [wrap64 (by omega) (by omega)]
  have hbl : ∀ l : List UInt8, (bytesD l).length = l.length := fun l => by simp [bytesD]
  have hba : ∀ (a b : List UInt8), bytesD a ++ bytesD b = bytesD (a ++ b) := fun a b => by simp [bytesD]
  have hb43 : ∀ a : List UInt8, bytesD a ++ [[D.int .u8 43]] = bytesD (a ++ [43]) := fun a => by simp [bytesD]
  have hb45 : ∀ a : List UInt8, bytesD a ++ [[D.int .u8 45]] = bytesD (a ++ [45]) := fun a => by simp [bytesD]
  have hit := Lib.itoa_length_le x.natAbs (by omega) (by unfold small at hx; omega)
  have hlt : (i : Int) < 4 := by omega
  have h0 : (0 : Int) ≤ i := by omega
  have hxx := hx
  unfold small at hxx
  have hc0 : ∀ η : Env, η.getD 7 default = .slc R → η.getD 9 default = .int .i64 i → E.den η (.cell (.v 7 (.slc [(.int .i64), .str])) (.v 9 (.int .i64)) 0 (.int .i64)) = .int .i64 x := by
    intro η h7 h9
    simp only [E.den, h7, h9, D.toL, D.toI, Int.toNat_natCast, hR, List.getD_cons_zero]
  have hc1 : ∀ η : Env, η.getD 7 default = .slc R → η.getD 9 default = .int .i64 i → E.den η (.cell (.v 7 (.slc [(.int .i64), .str])) (.v 9 (.int .i64)) 1 .str) = .str ⟨nm.toArray⟩ := by
    intro η h7 h9
    simp only [E.den, h7, h9, D.toL, D.toI, Int.toNat_natCast, hR, List.getD_cons_zero, List.getD_cons_succ]
  have hmx : ∀ η : Env, η.getD 7 default = .slc R → η.getD 9 default = .int .i64 i → E.den η (.ite (.cmp .gtr (.neg .i64 (.cell (.v 7 (.slc [(.int .i64), .str])) (.v 9 (.int .i64)) 0 (.int .i64))) (.cell (.v 7 (.slc [(.int .i64), .str])) (.v 9 (.int .i64)) 0 (.int .i64))) (.neg .i64 (.cell (.v 7 (.slc [(.int .i64), .str])) (.v 9 (.int .i64)) 0 (.int .i64))) (.cell (.v 7 (.slc [(.int .i64), .str])) (.v 9 (.int .i64)) 0 (.int .i64))) = .int .i64 x.natAbs :=
    fun η h7 h9 => fmt_max (hc0 η h7 h9) hx
  show Ev _ _ t0_protocol_FormatLinear _ _
  unfold t0_protocol_FormatLinear
  rw [Ev.ite_iff, if_pos (by simp [E.den, cmpD, hlt]), Ev.guard_iff]
  refine ⟨by simp [E.den, cmpD, hlt, hl], ?_⟩
  by_cases hx0 : x = 0
  · rw [Ev.ite_iff, if_pos (by rw [E.den, hc0 _ rfl rfl]; simp [cmpD, E.den, hx0]), Ev.jump_iff]
    have := next bb
    rw [fmtTerm, if_pos hx0] at this
    simpa [E.dens, E.den, arD, hw] using this
  rw [Ev.ite_iff, if_neg (by rw [E.den, hc0 _ rfl rfl]; simp [cmpD, E.den, hx0])]
  have ht : fmtTerm acc x nm = fmtSign acc x ++ fmtBody x nm := by rw [fmtTerm, if_neg hx0]
  have next' := next true
  rw [ht] at next'
  have hsz : ∀ l : List UInt8, (ByteArray.mk l.toArray).size = l.length := fun l => by simp [ByteArray.size]
  have hcat : ∀ a b : List UInt8, (ByteArray.mk a.toArray ++ ByteArray.mk b.toArray) = ByteArray.mk (a ++ b).toArray := fun a b => by
    apply ByteArray.ext; simp [ByteArray.data_append]
  have hem : ByteArray.mk #[] = ByteArray.mk ([] : List UInt8).toArray := rfl
  have h42 : ByteArray.mk #[42] = ByteArray.mk ([42] : List UInt8).toArray := rfl
  have next0 := next'
  rw [fmtSign, fmtBody] at next'
  by_cases hs : x < 0
  · rw [Ev.ite_iff, if_pos (by rw [E.den, hc0 _ rfl rfl]; simp [cmpD, E.den, hs])]
    rw [if_pos hs] at next'
    by_cases hn : nm = []
    · rw [if_pos hn] at next'
      simp [Ev.ite_iff, ↓guard_catOk, Ev.guard_iff, Ev.ret_iff, Ev.jump_iff, Ev.call_iff, E.dens, ↓hmx, ↓hc0, ↓hc1, E.den, cmpD, arD, scmpD_eql, hw, P_protocol_FormatLinear, S_protocol_FormatLinear, k_strings_Builder__WriteByte, r_strings_Builder__WriteByte, s_strings_Builder__WriteByte, p_strings_Builder__WriteByte, k_strings_Builder__WriteString, r_strings_Builder__WriteString, s_strings_Builder__WriteString, p_strings_Builder__WriteString, k_strings_Builder__Len, r_strings_Builder__Len, s_strings_Builder__Len, p_strings_Builder__Len, k_strconv_Itoa, r_strconv_Itoa, s_strconv_Itoa, p_strconv_Itoa, K.rts, K.otyss, K.otys, CK.tyss, CK.tys, K.tyss, K.tys, hb43, hb45, hba, hbl, hn]
      try simp only [h42, hcat, hsz, List.length_append, List.length_singleton]
      and_intros
      all_goals first | omega | (simpa using next')
    · rw [if_neg hn] at next'
      by_cases h1 : x.natAbs = 1
      · rw [if_pos h1] at next'
        have h1' : (x.natAbs : Int) = 1 := by omega
        simp [Ev.ite_iff, ↓guard_catOk, Ev.guard_iff, Ev.ret_iff, Ev.jump_iff, Ev.call_iff, E.dens, ↓hmx, ↓hc0, ↓hc1, E.den, cmpD, arD, scmpD_eql, hw, P_protocol_FormatLinear, S_protocol_FormatLinear, k_strings_Builder__WriteByte, r_strings_Builder__WriteByte, s_strings_Builder__WriteByte, p_strings_Builder__WriteByte, k_strings_Builder__WriteString, r_strings_Builder__WriteString, s_strings_Builder__WriteString, p_strings_Builder__WriteString, k_strings_Builder__Len, r_strings_Builder__Len, s_strings_Builder__Len, p_strings_Builder__Len, k_strconv_Itoa, r_strconv_Itoa, s_strconv_Itoa, p_strconv_Itoa, K.rts, K.otyss, K.otys, CK.tyss, CK.tys, K.tyss, K.tys, hb43, hb45, hba, hbl, hn, h1']
        try simp only [h42, hcat, hsz, List.length_append, List.length_singleton]
        and_intros
        all_goals first | omega | (simpa using next')
      · rw [if_neg h1] at next'
        have h1' : ¬ ((x.natAbs : Int) = 1) := by omega
        simp [Ev.ite_iff, ↓guard_catOk, Ev.guard_iff, Ev.ret_iff, Ev.jump_iff, Ev.call_iff, E.dens, ↓hmx, ↓hc0, ↓hc1, E.den, cmpD, arD, scmpD_eql, hw, P_protocol_FormatLinear, S_protocol_FormatLinear, k_strings_Builder__WriteByte, r_strings_Builder__WriteByte, s_strings_Builder__WriteByte, p_strings_Builder__WriteByte, k_strings_Builder__WriteString, r_strings_Builder__WriteString, s_strings_Builder__WriteString, p_strings_Builder__WriteString, k_strings_Builder__Len, r_strings_Builder__Len, s_strings_Builder__Len, p_strings_Builder__Len, k_strconv_Itoa, r_strconv_Itoa, s_strconv_Itoa, p_strconv_Itoa, K.rts, K.otyss, K.otys, CK.tyss, CK.tys, K.tyss, K.tys, hb43, hb45, hba, hbl, hn, h1']
        try simp only [h42, hcat, hsz, List.length_append, List.length_singleton]
        and_intros
        all_goals first | omega | (simpa using next')
  · rw [Ev.ite_iff, if_neg (by rw [E.den, hc0 _ rfl rfl]; simp [cmpD, E.den]; exact decide_eq_false hs)]
    rw [if_neg hs] at next'
    by_cases ha : acc = []
    · rw [if_pos ha] at next'
      subst ha
      have hb0 : (bytesD []).length = 0 := rfl
      by_cases hn : nm = []
      · rw [if_pos hn] at next'
        simp [Ev.ite_iff, ↓guard_catOk, Ev.guard_iff, Ev.ret_iff, Ev.jump_iff, Ev.call_iff, E.dens, ↓hmx, ↓hc0, ↓hc1, E.den, cmpD, arD, scmpD_eql, hw, P_protocol_FormatLinear, S_protocol_FormatLinear, k_strings_Builder__WriteByte, r_strings_Builder__WriteByte, s_strings_Builder__WriteByte, p_strings_Builder__WriteByte, k_strings_Builder__WriteString, r_strings_Builder__WriteString, s_strings_Builder__WriteString, p_strings_Builder__WriteString, k_strings_Builder__Len, r_strings_Builder__Len, s_strings_Builder__Len, p_strings_Builder__Len, k_strconv_Itoa, r_strconv_Itoa, s_strconv_Itoa, p_strconv_Itoa, K.rts, K.otyss, K.otys, CK.tyss, CK.tys, K.tyss, K.tys, hb43, hb45, hba, hbl, hn, hb0]
        try simp only [h42, hcat, hsz, List.length_append, List.length_singleton]
        and_intros
        all_goals first | omega | (simpa using next')
      · rw [if_neg hn] at next'
        by_cases h1 : x.natAbs = 1
        · rw [if_pos h1] at next'
          have h1' : (x.natAbs : Int) = 1 := by omega
          simp [Ev.ite_iff, ↓guard_catOk, Ev.guard_iff, Ev.ret_iff, Ev.jump_iff, Ev.call_iff, E.dens, ↓hmx, ↓hc0, ↓hc1, E.den, cmpD, arD, scmpD_eql, hw, P_protocol_FormatLinear, S_protocol_FormatLinear, k_strings_Builder__WriteByte, r_strings_Builder__WriteByte, s_strings_Builder__WriteByte, p_strings_Builder__WriteByte, k_strings_Builder__WriteString, r_strings_Builder__WriteString, s_strings_Builder__WriteString, p_strings_Builder__WriteString, k_strings_Builder__Len, r_strings_Builder__Len, s_strings_Builder__Len, p_strings_Builder__Len, k_strconv_Itoa, r_strconv_Itoa, s_strconv_Itoa, p_strconv_Itoa, K.rts, K.otyss, K.otys, CK.tyss, CK.tys, K.tyss, K.tys, hb43, hb45, hba, hbl, hn, h1', hb0]
          try simp only [h42, hcat, hsz, List.length_append, List.length_singleton]
          and_intros
          all_goals first | omega | (simpa using next')
        · rw [if_neg h1] at next'
          have h1' : ¬ ((x.natAbs : Int) = 1) := by omega
          simp [Ev.ite_iff, ↓guard_catOk, Ev.guard_iff, Ev.ret_iff, Ev.jump_iff, Ev.call_iff, E.dens, ↓hmx, ↓hc0, ↓hc1, E.den, cmpD, arD, scmpD_eql, hw, P_protocol_FormatLinear, S_protocol_FormatLinear, k_strings_Builder__WriteByte, r_strings_Builder__WriteByte, s_strings_Builder__WriteByte, p_strings_Builder__WriteByte, k_strings_Builder__WriteString, r_strings_Builder__WriteString, s_strings_Builder__WriteString, p_strings_Builder__WriteString, k_strings_Builder__Len, r_strings_Builder__Len, s_strings_Builder__Len, p_strings_Builder__Len, k_strconv_Itoa, r_strconv_Itoa, s_strconv_Itoa, p_strconv_Itoa, K.rts, K.otyss, K.otys, CK.tyss, CK.tys, K.tyss, K.tys, hb43, hb45, hba, hbl, hn, h1', hb0]
          try simp only [h42, hcat, hsz, List.length_append, List.length_singleton]
          and_intros
          all_goals first | omega | (simpa using next')
    · rw [if_neg ha] at next'
      have hal : 0 < acc.length := List.length_pos_iff.2 ha
      by_cases hn : nm = []
      · rw [if_pos hn] at next'
        simp [Ev.ite_iff, ↓guard_catOk, Ev.guard_iff, Ev.ret_iff, Ev.jump_iff, Ev.call_iff, E.dens, ↓hmx, ↓hc0, ↓hc1, E.den, cmpD, arD, scmpD_eql, hw, P_protocol_FormatLinear, S_protocol_FormatLinear, k_strings_Builder__WriteByte, r_strings_Builder__WriteByte, s_strings_Builder__WriteByte, p_strings_Builder__WriteByte, k_strings_Builder__WriteString, r_strings_Builder__WriteString, s_strings_Builder__WriteString, p_strings_Builder__WriteString, k_strings_Builder__Len, r_strings_Builder__Len, s_strings_Builder__Len, p_strings_Builder__Len, k_strconv_Itoa, r_strconv_Itoa, s_strconv_Itoa, p_strconv_Itoa, K.rts, K.otyss, K.otys, CK.tyss, CK.tys, K.tyss, K.tys, hb43, hb45, hba, hbl, hn, ha, hal]
        try simp only [h42, hcat, hsz, List.length_append, List.length_singleton]
        and_intros
        all_goals first | omega | (simpa using next')
      · rw [if_neg hn] at next'
        by_cases h1 : x.natAbs = 1
        · rw [if_pos h1] at next'
          have h1' : (x.natAbs : Int) = 1 := by omega
          simp [Ev.ite_iff, ↓guard_catOk, Ev.guard_iff, Ev.ret_iff, Ev.jump_iff, Ev.call_iff, E.dens, ↓hmx, ↓hc0, ↓hc1, E.den, cmpD, arD, scmpD_eql, hw, P_protocol_FormatLinear, S_protocol_FormatLinear, k_strings_Builder__WriteByte, r_strings_Builder__WriteByte, s_strings_Builder__WriteByte, p_strings_Builder__WriteByte, k_strings_Builder__WriteString, r_strings_Builder__WriteString, s_strings_Builder__WriteString, p_strings_Builder__WriteString, k_strings_Builder__Len, r_strings_Builder__Len, s_strings_Builder__Len, p_strings_Builder__Len, k_strconv_Itoa, r_strconv_Itoa, s_strconv_Itoa, p_strconv_Itoa, K.rts, K.otyss, K.otys, CK.tyss, CK.tys, K.tyss, K.tys, hb43, hb45, hba, hbl, hn, h1', ha, hal]
          try simp only [h42, hcat, hsz, List.length_append, List.length_singleton]
          and_intros
          all_goals first | omega | (simpa using next')
        · rw [if_neg h1] at next'
          have h1' : ¬ ((x.natAbs : Int) = 1) := by omega
          simp [Ev.ite_iff, ↓guard_catOk, Ev.guard_iff, Ev.ret_iff, Ev.jump_iff, Ev.call_iff, E.dens, ↓hmx, ↓hc0, ↓hc1, E.den, cmpD, arD, scmpD_eql, hw, P_protocol_FormatLinear, S_protocol_FormatLinear, k_strings_Builder__WriteByte, r_strings_Builder__WriteByte, s_strings_Builder__WriteByte, p_strings_Builder__WriteByte, k_strings_Builder__WriteString, r_strings_Builder__WriteString, s_strings_Builder__WriteString, p_strings_Builder__WriteString, k_strings_Builder__Len, r_strings_Builder__Len, s_strings_Builder__Len, p_strings_Builder__Len, k_strconv_Itoa, r_strconv_Itoa, s_strconv_Itoa, p_strconv_Itoa, K.rts, K.otyss, K.otys, CK.tyss, CK.tys, K.tyss, K.tys, hb43, hb45, hba, hbl, hn, h1', ha, hal]
          try simp only [h42, hcat, hsz, List.length_append, List.length_singleton]
          and_intros
          all_goals first | omega | (simpa using next')
theorem law_protocol_FormatLinear (ds : List D) (hw : D.wts (K.tyss k_protocol_FormatLinear) ds) (hp : p_protocol_FormatLinear ds) : Ev (ByS P_protocol_FormatLinear S_protocol_FormatLinear) B_protocol_FormatLinear t_protocol_FormatLinear ds (s_protocol_FormatLinear ds) := by
  obtain ⟨a0, _, rfl, ha0, a1, _, rfl, ha1, a2, _, rfl, ha2, a3, _, rfl, ha3, rfl⟩ := hw
  obtain ⟨c, rfl⟩ := ha0
  obtain ⟨n, rfl⟩ := ha1
  obtain ⟨t, rfl⟩ := ha2
  obtain ⟨f, rfl⟩ := ha3
  have hbl : ∀ l : List UInt8, (bytesD l).length = l.length := fun l => by simp [bytesD]
  unfold t_protocol_FormatLinear
  rw [Ev.call_iff]
  refine ⟨⟨rfl, rfl, trivial⟩, rfl, ?_⟩
  have hres : s_protocol_FormatLinear [.int .i64 c, .int .i64 n, .int .i64 t, .int .i64 f] = [.str (if fewI c n t f then ⟨(fmtLin c n t f).toArray⟩ else ByteArray.empty)] := rfl
  rw [hres, Ev.ite_iff]
  have hcall : S_protocol_FormatLinear 20 (E.dens [.int .i64 c, .int .i64 n, .int .i64 t, .int .i64 f] [(.v 0 (.int .i64)), (.v 1 (.int .i64)), (.v 2 (.int .i64)), (.v 3 (.int .i64))]) = [.bool (fewI c n t f)] := rfl
  rw [hcall]
  by_cases hfew : fewI c n t f = true
  · rw [if_neg (by simp [E.den, hfew]), if_pos hfew, Ev.jump_iff]
    simp only [E.dens, E.denss, E.den, List.cons_append, List.nil_append, List.getD_cons_zero, List.getD_cons_succ, D.toL, List.length_cons, List.length_nil, Nat.zero_add]
    have hf4 : small c ∧ small n ∧ small t ∧ small f := by
      simpa [fewI] using hfew
    obtain ⟨hc, hn, ht, hf⟩ := hf4
    have l1 := fmtTerm_len [] n [110] hn
    have l2 := fmtTerm_len (fmtTerm [] n [110]) t [116] ht
    have l3 := fmtTerm_len (fmtTerm (fmtTerm [] n [110]) t [116]) f [102] hf
    have l4 := fmtTerm_len (fmtTerm (fmtTerm (fmtTerm [] n [110]) t [116]) f [102]) c [] hc
    simp only [List.length_cons, List.length_nil, Nat.zero_add] at l1 l2 l3 l4
    refine step_protocol_FormatLinear _ 0 [] n [110] rfl (by omega) rfl (by simp) hn (by simp) _ _ _ _ _ _ _ fun b1 => ?_
    refine step_protocol_FormatLinear _ 1 _ t [116] rfl (by omega) rfl (by omega) ht (by simp) _ _ _ _ _ _ _ fun b2 => ?_
    refine step_protocol_FormatLinear _ 2 _ f [102] rfl (by omega) rfl (by omega) hf (by simp) _ _ _ _ _ _ _ fun b3 => ?_
    refine step_protocol_FormatLinear _ 3 _ c [] rfl (by omega) rfl (by omega) hc (by simp) _ _ _ _ _ _ _ fun b4 => ?_
    show Ev _ _ t0_protocol_FormatLinear _ _
    unfold t0_protocol_FormatLinear fmtLin
    generalize fmtTerm (fmtTerm (fmtTerm (fmtTerm [] n [110]) t [116]) f [102]) c [] = r at *
    rw [Ev.ite_iff, if_neg (by simp [E.den, cmpD]), Ev.call_iff]
    refine ⟨⟨rfl, rfl, trivial⟩, rfl, ?_⟩
    rw [Ev.ite_iff]
    by_cases hr : r = []
    · subst hr
      rw [if_pos (by rfl), Ev.ret_iff]
      rfl
    · have hrl : r.length ≠ 0 := fun h => hr (List.length_eq_zero_iff.1 h)
      rw [if_neg (by simp [E.den, E.dens, cmpD, hbl, hr, S_protocol_FormatLinear, s_strings_Builder__Len]), Ev.call_iff]
      refine ⟨⟨rfl, rfl, r, hr, rfl⟩, rfl, ?_⟩
      rw [Ev.ret_iff]
      simp [E.dens, E.den, S_protocol_FormatLinear, s_strings_Builder__Len, s_strings_Builder__String, unB_bytesD, hr]
  · rw [if_pos (by simp [E.den, hfew]), if_neg hfew, Ev.ret_iff]
    rfl

theorem spec_protocol_FormatLinear : ∀ ds, p_protocol_FormatLinear ds → Corr Tryd.prog lay 24 k_protocol_FormatLinear ds r_protocol_FormatLinear (s_protocol_FormatLinear ds) := spec_of_protocol_FormatLinear law_protocol_FormatLinear
def k_strings_Fields : List K := [(.one .str)]
def r_strings_Fields : List K := [(.one (.slc [.str]))]
theorem spec_strings_Fields : ∀ ds, p_strings_Fields ds → Corr Tryd.prog lay 57 k_strings_Fields ds r_strings_Fields (s_strings_Fields ds) := fun ds hp => corr_Fields (u := ("strings.asciiSpace", .u8, Lib.asciiSpaceTab)) (fun w h => (show ∀ x ∈ tables, Lib.TabIs Tryd.prog w x.1 x.2.1 x.2.2 from h) _ (by simp [tables])) (fun s w h0 h1 ht => Tryd.strings_Fields s w h0 h1 ht) ds hp
/- slices.Index[[]string,string] -/
def k_slices_Index_string : List K := [(.one (.slc [.str])), (.one .str)]
def r_slices_Index_string : List K := [(.one (.int .i64))]
def b_slices_Index_string : List Blk := [{ st := [.code [0, 0, 0, 1, 0, 1], .code [1, 0, 0, 1, 0, 1], .inLoop [0, 1, 0, 1], .inBlock 0, .code [1, 1]], σ := { t := [(0, (.sc (.v 0 (.slc [.str])))), (1, (.sc (.v 1 .str))), (4, (.sc (.v 2 (.int .i64)))), (7, (.sc (.v 3 (.int .i64)))), (8, (.sc (.v 4 (.int .i64))))], o := [] }, tys := [(.slc [.str]), .str, (.int .i64), (.int .i64), (.int .i64)] }]
noncomputable def c_slices_Index_string : Ctx := mkCtx Tryd.prog lay Tryd.f61 ⟨[], [], []⟩ k_slices_Index_string r_slices_Index_string [(2, 0)] b_slices_Index_string
def t_slices_Index_string : T :=
 (.jump 0 [(.v 0 (.slc [.str])), (.v 1 .str), (.n .i64 0), (.len (.v 0 (.slc [.str]))), (.n .i64 0)])
def t0_slices_Index_string : T :=
 (.ite (.cmp .lss (.v 4 (.int .i64)) (.v 3 (.int .i64)))
  (.guard (.and (.cmp .geq (.v 4 (.int .i64)) (.n .i64 0)) (.cmp .lss (.v 4 (.int .i64)) (.len (.v 0 (.slc [.str])))))
  (.ite (.scmp .eql (.v 1 .str) (.cell (.v 0 (.slc [.str])) (.v 4 (.int .i64)) 0 .str))
   (.ret [(.v 4 (.int .i64))])
   (.jump 0 [(.v 0 (.slc [.str])), (.v 1 .str), (.v 2 (.int .i64)), (.v 3 (.int .i64)), (.ar .add .i64 (.v 4 (.int .i64)) (.n .i64 1))])))
  (.ret [(.n .i64 (-1))]))
def B_slices_Index_string : Nat → T
  | 0 => t0_slices_Index_string
  | _ => .dead
theorem ok_slices_Index_string : c_slices_Index_string.Ok 61 B_slices_Index_string := ok_of Tryd.func61 (by kernel_rfl) mixed
  (.cons (n := 100000) (by kernel_rfl) (.nil))
theorem correct_slices_Index_string {ds rs : List D} (h : Ev (Corr Tryd.prog lay) B_slices_Index_string t_slices_Index_string ds rs) : Corr Tryd.prog lay 61 k_slices_Index_string ds r_slices_Index_string rs :=
  correct_of ok_slices_Index_string (n := 100000) (t := t_slices_Index_string) (by kernel_rfl) (by kernel_rfl) h
noncomputable def S_slices_Index_string : Nat → List D → List D
  | _, _ => []
def P_slices_Index_string : Nat → List K → List D → List K → Prop
  | _, _, _, _ => False
theorem use_slices_Index_string : ∀ g ks ds rk xs, ByS P_slices_Index_string S_slices_Index_string g ks ds rk xs → Corr Tryd.prog lay g ks ds rk xs := by
  intro g ks ds rk xs h
  obtain ⟨h1, rfl⟩ := h
  unfold P_slices_Index_string at h1
  split at h1
  · exact h1.elim
theorem spec_of_slices_Index_string (law : ∀ ds, D.wts (K.tyss k_slices_Index_string) ds → p_slices_Index_string ds → Ev (ByS P_slices_Index_string S_slices_Index_string) B_slices_Index_string t_slices_Index_string ds (s_slices_Index_string ds)) : ∀ ds, p_slices_Index_string ds → Corr Tryd.prog lay 61 k_slices_Index_string ds r_slices_Index_string (s_slices_Index_string ds) :=
  fun ds hp => .of_wt (by decide) fun hw => correct_slices_Index_string ((law ds hw hp).monoC use_slices_Index_string)
theorem loop_slices_Index_string (es : List (List D)) (he : es.length ≤ maxLen) (_hwt : ∀ c ∈ es, D.wts [.str] c) (s : ByteArray) (x : D) : ∀ (m i : Nat), es.length - i = m → i ≤ es.length → (∀ j, j < i → (strs (.slc es)).getD j [] ≠ s.data.toList) →
    Ev (ByS P_slices_Index_string S_slices_Index_string) B_slices_Index_string t0_slices_Index_string [.slc es, .str s, x, .int .i64 es.length, .int .i64 i] [I (idxS (strs (.slc es)) s.data.toList)] := by
  have hl : (strs (.slc es)).length = es.length := by simp [strs]
  intro m
  induction m with
  | zero =>
    intro i hm h1 hno
    have hi : i = es.length := by omega
    have hn : (strs (.slc es)).findIdx? (· == s.data.toList) = none := by
      rw [List.findIdx?_eq_none_iff]
      intro y hy
      obtain ⟨j, hj⟩ := List.getElem?_of_mem hy
      have hjl := (List.getElem?_eq_some_iff.1 hj).1
      have := hno j (by omega)
      rw [List.getD_eq_getElem?_getD, hj] at this
      simpa using this
    simp [t0_slices_Index_string, Ev.ite_iff, Ev.guard_iff, Ev.ret_iff, Ev.jump_iff, E.dens, E.den, cmpD, arD, hi, idxS, hn]
  | succ m ih =>
    intro i hm h1 hno
    have hlt : i < es.length := by omega
    have hw : IntKind.i64.wrap ((i : Int) + 1) = ((i + 1 : Nat) : Int) := by rw [wrap64 (by omega) (by unfold maxLen at *; omega)]; simp
    have hget : (strs (.slc es)).getD i [] = txt (es[i][0]?.getD default) := by simp [strs, hlt]
    have hcond : scmpD .eql s (es[i][0]?.getD default).toS = decide ((strs (.slc es)).getD i [] = s.data.toList) := by
      rw [hget, scmpD_eql]
      simp only [txt, eq_comm]
    simp [t0_slices_Index_string, Ev.ite_iff, Ev.guard_iff, Ev.ret_iff, Ev.jump_iff, E.dens, E.den, cmpD, arD, hlt, hw]
    rw [hcond]
    by_cases h : (strs (.slc es)).getD i [] = s.data.toList
    · rw [if_pos (by simpa using h)]
      have hf : (strs (.slc es)).findIdx? (· == s.data.toList) = some i := by
        rw [List.findIdx?_eq_some_iff_getElem]
        refine ⟨by omega, ?_, fun j hj => ?_⟩
        · rw [List.getD_eq_getElem?_getD, List.getElem?_eq_getElem (by omega)] at h
          simpa using h
        · have := hno j hj
          rw [List.getD_eq_getElem?_getD, List.getElem?_eq_getElem (by omega)] at this
          simpa using this
      simp [idxS, hf]
    · rw [if_neg (by simpa using h)]
      exact ih (i + 1) (by omega) (by omega) (fun j hj => by
        rcases Nat.lt_or_eq_of_le (Nat.le_of_lt_succ hj) with h' | h'
        · exact hno j h'
        · rw [h']; exact h)
theorem law_slices_Index_string (ds : List D) (hw : D.wts (K.tyss k_slices_Index_string) ds) (hp : p_slices_Index_string ds) : Ev (ByS P_slices_Index_string S_slices_Index_string) B_slices_Index_string t_slices_Index_string ds (s_slices_Index_string ds) := by
  obtain ⟨a0, _, rfl, ha0, a1, _, rfl, ha1, rfl⟩ := hw
  obtain ⟨es, rfl, he, hwt⟩ := ha0
  obtain ⟨s, rfl⟩ := ha1
  simp [t_slices_Index_string, s_slices_Index_string, Ev.jump_iff, E.dens, E.den]
  exact loop_slices_Index_string es he hwt s _ _ 0 rfl (Nat.zero_le _) (fun j h => absurd h (Nat.not_lt_zero _))

theorem spec_slices_Index_string : ∀ ds, p_slices_Index_string ds → Corr Tryd.prog lay 61 k_slices_Index_string ds r_slices_Index_string (s_slices_Index_string ds) := spec_of_slices_Index_string law_slices_Index_string
/- slices.Contains[[]string,string] -/
def k_slices_Contains_string : List K := [(.one (.slc [.str])), (.one .str)]
def r_slices_Contains_string : List K := [(.one .bool)]
def b_slices_Contains_string : List Blk := []
noncomputable def c_slices_Contains_string : Ctx := mkCtx Tryd.prog lay Tryd.f56 ⟨[(61, [(.one (.int .i64))])], [], []⟩ k_slices_Contains_string r_slices_Contains_string [] b_slices_Contains_string
def t_slices_Contains_string : T :=
 (.call 61 [(.one (.slc [.str])), (.one .str)] [(.v 0 (.slc [.str])), (.v 1 .str)] [(.one (.int .i64))]
 (.ret [(.cmp .geq (.v 2 (.int .i64)) (.n .i64 0))]))
def B_slices_Contains_string : Nat → T
  | _ => .dead
theorem ok_slices_Contains_string : c_slices_Contains_string.Ok 56 B_slices_Contains_string := ok_of Tryd.func56 (by kernel_rfl) mixed
  (.nil)
theorem correct_slices_Contains_string {ds rs : List D} (h : Ev (Corr Tryd.prog lay) B_slices_Contains_string t_slices_Contains_string ds rs) : Corr Tryd.prog lay 56 k_slices_Contains_string ds r_slices_Contains_string rs :=
  correct_of ok_slices_Contains_string (n := 100000) (t := t_slices_Contains_string) (by kernel_rfl) (by kernel_rfl) h
noncomputable def S_slices_Contains_string : Nat → List D → List D
  | 61, ds => s_slices_Index_string ds
  | _, _ => []
def P_slices_Contains_string : Nat → List K → List D → List K → Prop
  | 61, ks, ds, rk => ks = k_slices_Index_string ∧ rk = r_slices_Index_string ∧ p_slices_Index_string ds
  | _, _, _, _ => False
theorem use_slices_Contains_string : ∀ g ks ds rk xs, ByS P_slices_Contains_string S_slices_Contains_string g ks ds rk xs → Corr Tryd.prog lay g ks ds rk xs := by
  intro g ks ds rk xs h
  obtain ⟨h1, rfl⟩ := h
  unfold P_slices_Contains_string at h1
  split at h1
  · obtain ⟨rfl, rfl, h1⟩ := h1; exact spec_slices_Index_string ds h1
  · exact h1.elim
theorem spec_of_slices_Contains_string (law : ∀ ds, D.wts (K.tyss k_slices_Contains_string) ds → p_slices_Contains_string ds → Ev (ByS P_slices_Contains_string S_slices_Contains_string) B_slices_Contains_string t_slices_Contains_string ds (s_slices_Contains_string ds)) : ∀ ds, p_slices_Contains_string ds → Corr Tryd.prog lay 56 k_slices_Contains_string ds r_slices_Contains_string (s_slices_Contains_string ds) :=
  fun ds hp => .of_wt (by decide) fun hw => correct_slices_Contains_string ((law ds hw hp).monoC use_slices_Contains_string)
theorem idxS_nonneg (l : List (List UInt8)) (s : List UInt8) : decide (idxS l s ≥ 0) = l.contains s := by
  unfold idxS
  cases h : l.findIdx? (· == s) with
  | none =>
    rw [List.findIdx?_eq_none_iff] at h
    simp only [ge_iff_le]
    symm
    rw [show decide ((0 : Int) ≤ -1) = false from rfl]
    by_cases hc : l.contains s = true
    · rw [List.contains_iff_mem] at hc
      have := h s hc
      simp at this
    · simpa using hc
  | some i =>
    rw [List.findIdx?_eq_some_iff_getElem] at h
    obtain ⟨h1, h2, _⟩ := h
    have hm : s ∈ l := by
      have : l[i] = s := by simpa using h2
      rw [← this]; exact List.getElem_mem h1
    rw [List.contains_iff_mem.2 hm]
    simp
theorem law_slices_Contains_string (ds : List D) (hw : D.wts (K.tyss k_slices_Contains_string) ds) (hp : p_slices_Contains_string ds) : Ev (ByS P_slices_Contains_string S_slices_Contains_string) B_slices_Contains_string t_slices_Contains_string ds (s_slices_Contains_string ds) := by
  obtain ⟨a0, _, rfl, ha0, a1, _, rfl, ha1, rfl⟩ := hw
  obtain ⟨es, rfl, he, hwt⟩ := ha0
  obtain ⟨s, rfl⟩ := ha1
  simp [t_slices_Contains_string, s_slices_Contains_string, P_slices_Contains_string, S_slices_Contains_string, k_slices_Index_string, r_slices_Index_string, s_slices_Index_string, p_slices_Index_string, K.rts, K.otyss, K.otys, K.tyss, K.tys, Ev.ret_iff, Ev.call_iff, E.dens, E.den, cmpD]
  simpa [txt] using idxS_nonneg (strs (.slc es)) s.data.toList

theorem spec_slices_Contains_string : ∀ ds, p_slices_Contains_string ds → Corr Tryd.prog lay 56 k_slices_Contains_string ds r_slices_Contains_string (s_slices_Contains_string ds) := spec_of_slices_Contains_string law_slices_Contains_string
/- familycheck/protocol.isReserved -/
def k_protocol_isReserved : List K := [(.one .str)]
def r_protocol_isReserved : List K := [(.one .bool)]
def b_protocol_isReserved : List Blk := []
noncomputable def c_protocol_isReserved : Ctx := mkCtx Tryd.prog lay Tryd.f50 ⟨[(56, [(.one .bool)]), (57, [(.one (.slc [.str]))])], [], []⟩ k_protocol_isReserved r_protocol_isReserved [] b_protocol_isReserved
def t_protocol_isReserved : T :=
 (.call 57 [(.one .str)] [(.s ⟨#[112, 114, 111, 116, 111, 99, 111, 108, 32, 116, 111, 112, 111, 108, 111, 103, 121, 32, 115, 116, 97, 116, 101, 115, 32, 109, 101, 115, 115, 97, 103, 101, 115, 32, 118, 97, 108, 117, 101, 115, 32, 102, 97, 117, 108, 116, 115, 32, 114, 101, 115, 105, 108, 105, 101, 110, 99, 101, 32, 105, 110, 105, 116, 105, 97, 108, 32, 108, 101, 97, 100, 101, 114, 32, 114, 117, 108, 101, 32, 108, 111, 99, 97, 108, 32, 112, 97, 105, 114, 32, 98, 114, 111, 97, 100, 99, 97, 115, 116, 32, 110, 101, 105, 103, 104, 98, 111, 114, 32, 112, 97, 115, 115, 32, 119, 104, 101, 110, 32, 101, 120, 105, 115, 116, 115, 32, 102, 111, 114, 97, 108, 108, 32, 114, 101, 97, 100, 32, 119, 114, 105, 116, 101, 32, 115, 101, 110, 100, 32, 97, 108, 108, 32, 97, 116, 32, 102, 105, 114, 115, 116, 32, 108, 97, 115, 116, 32, 108, 101, 102, 116, 32, 114, 105, 103, 104, 116, 32, 112, 97, 114, 101, 110, 116, 32, 99, 104, 105, 108, 100, 32, 112, 114, 111, 112, 101, 114, 116, 121, 32, 110, 101, 118, 101, 114, 32, 101, 118, 101, 110, 116, 117, 97, 108, 108, 121, 32, 115, 116, 97, 114, 116, 32, 99, 111, 117, 110, 116, 32, 97, 100, 106, 97, 99, 101, 110, 116, 32, 103, 111, 97, 108, 32, 99, 108, 105, 113, 117, 101, 32, 108, 105, 110, 101, 32, 114, 105, 110, 103, 32, 116, 114, 101, 101, 32, 99, 114, 97, 115, 104, 32, 111, 109, 105, 115, 115, 105, 111, 110, 32, 97, 114, 98, 105, 116, 114, 97, 114, 121]⟩)] [(.one (.slc [.str]))]
 (.call 56 [(.one (.slc [.str])), (.one .str)] [(.v 1 (.slc [.str])), (.v 0 .str)] [(.one .bool)]
 (.ret [(.v 2 .bool)])))
def B_protocol_isReserved : Nat → T
  | _ => .dead
theorem ok_protocol_isReserved : c_protocol_isReserved.Ok 50 B_protocol_isReserved := ok_of Tryd.func50 (by kernel_rfl) mixed
  (.nil)
theorem correct_protocol_isReserved {ds rs : List D} (h : Ev (Corr Tryd.prog lay) B_protocol_isReserved t_protocol_isReserved ds rs) : Corr Tryd.prog lay 50 k_protocol_isReserved ds r_protocol_isReserved rs :=
  correct_of ok_protocol_isReserved (n := 100000) (t := t_protocol_isReserved) (by kernel_rfl) (by kernel_rfl) h
noncomputable def S_protocol_isReserved : Nat → List D → List D
  | 57, ds => s_strings_Fields ds
  | 56, ds => s_slices_Contains_string ds
  | _, _ => []
def P_protocol_isReserved : Nat → List K → List D → List K → Prop
  | 57, ks, ds, rk => ks = k_strings_Fields ∧ rk = r_strings_Fields ∧ p_strings_Fields ds
  | 56, ks, ds, rk => ks = k_slices_Contains_string ∧ rk = r_slices_Contains_string ∧ p_slices_Contains_string ds
  | _, _, _, _ => False
theorem use_protocol_isReserved : ∀ g ks ds rk xs, ByS P_protocol_isReserved S_protocol_isReserved g ks ds rk xs → Corr Tryd.prog lay g ks ds rk xs := by
  intro g ks ds rk xs h
  obtain ⟨h1, rfl⟩ := h
  unfold P_protocol_isReserved at h1
  split at h1
  · obtain ⟨rfl, rfl, h1⟩ := h1; exact spec_strings_Fields ds h1
  · obtain ⟨rfl, rfl, h1⟩ := h1; exact spec_slices_Contains_string ds h1
  · exact h1.elim
theorem spec_of_protocol_isReserved (law : ∀ ds, D.wts (K.tyss k_protocol_isReserved) ds → p_protocol_isReserved ds → Ev (ByS P_protocol_isReserved S_protocol_isReserved) B_protocol_isReserved t_protocol_isReserved ds (s_protocol_isReserved ds)) : ∀ ds, p_protocol_isReserved ds → Corr Tryd.prog lay 50 k_protocol_isReserved ds r_protocol_isReserved (s_protocol_isReserved ds) :=
  fun ds hp => .of_wt (by decide) fun hw => correct_protocol_isReserved ((law ds hw hp).monoC use_protocol_isReserved)
theorem tree_protocol_isReserved : t_protocol_isReserved = .call 57 [.one .str] [.s ⟨reservedS.toArray⟩] [.one (.slc [.str])]
    (.call 56 [.one (.slc [.str]), .one .str] [.v 1 (.slc [.str]), .v 0 .str] [.one .bool] (.ret [.v 2 .bool])) := by kernel_rfl
theorem reservedS_ok : p_strings_Fields [.str ⟨reservedS.toArray⟩] := by
  refine ⟨?_, ?_, ?_⟩
  · simp only [nth, List.getD_cons_zero, D.toS, ByteArray.size, List.size_toArray]; decide +kernel
  · simp only [nth, List.getD_cons_zero, D.toS]; decide +kernel
  · simp only [nth, List.getD_cons_zero, D.toS]; decide +kernel
theorem law_protocol_isReserved (ds : List D) (hw : D.wts (K.tyss k_protocol_isReserved) ds) (hp : p_protocol_isReserved ds) : Ev (ByS P_protocol_isReserved S_protocol_isReserved) B_protocol_isReserved t_protocol_isReserved ds (s_protocol_isReserved ds) := by
  obtain ⟨a0, _, rfl, ha0, rfl⟩ := hw
  obtain ⟨s, rfl⟩ := ha0
  rw [tree_protocol_isReserved]
  simp only [Ev.call_iff, E.dens, E.den, P_protocol_isReserved, S_protocol_isReserved, k_strings_Fields, r_strings_Fields, k_slices_Contains_string, r_slices_Contains_string, Ev.ret_iff, true_and]
  refine ⟨reservedS_ok, rfl, trivial, rfl, ?_⟩
  simp only [s_strings_Fields, s_slices_Contains_string, s_protocol_isReserved, strs, txt, nth, List.getD_cons_zero, D.toS, D.toL, List.cons_append, List.nil_append, List.getD_cons_succ, List.map_map]
  unfold reservedL
  generalize reservedS = R
  refine congrArg (fun (l : List (List UInt8)) => [D.bool (l.contains s.data.toList)]) ?_
  conv => rhs; rw [← List.map_id (Lib.fields R)]
  apply List.map_congr_left
  intro l _
  simp

theorem spec_protocol_isReserved : ∀ ds, p_protocol_isReserved ds → Corr Tryd.prog lay 50 k_protocol_isReserved ds r_protocol_isReserved (s_protocol_isReserved ds) := spec_of_protocol_isReserved law_protocol_isReserved
/- familycheck/protocol.ValidName -/
def k_protocol_ValidName : List K := [(.one .str)]
def r_protocol_ValidName : List K := [(.one .bool)]
def b_protocol_ValidName : List Blk := [{ st := [.code [0, 0, 0, 1, 0, 1, 1], .code [1, 0, 0, 1, 0, 1, 1], .inLoop [0, 1, 0, 1, 1], .inBlock 0, .code [1, 1, 1]], σ := { t := [(0, (.sc (.v 0 .str))), (2, (.sc (.v 2 .bool))), (14, (.ptr 0 0))], o := [(.iter (.v 0 .str) (.v 1 (.int .i64)))] }, tys := [.str, (.int .i64), .bool] }]
noncomputable def c_protocol_ValidName : Ctx := mkCtx Tryd.prog lay Tryd.f25 ⟨[(50, [(.one .bool)])], [], []⟩ k_protocol_ValidName r_protocol_ValidName [(4, 0)] b_protocol_ValidName
def t_protocol_ValidName : T :=
 (.ite (.scmp .eql (.v 0 .str) (.s ⟨#[]⟩))
  (.ret [(.b false)])
  (.ite (.cmp .gtr (.slen (.v 0 .str)) (.n .i64 12))
   (.ret [(.b false)])
   (.jump 0 [(.v 0 .str), (.n .i64 0), (.b false)])))
def t0_protocol_ValidName : T :=
 (.ite (.cmp .lss (.v 1 (.int .i64)) (.slen (.v 0 .str)))
  (.ite (.cmp .geq (.rune (.v 0 .str) (.v 1 (.int .i64))) (.n .i32 97))
   (.ite (.not (.cmp .leq (.rune (.v 0 .str) (.v 1 (.int .i64))) (.n .i32 122)))
    (.ite (.cmp .eql (.v 1 (.int .i64)) (.n .i64 0))
     (.ret [(.b false)])
     (.ite (.cmp .lss (.rune (.v 0 .str) (.v 1 (.int .i64))) (.n .i32 48))
      (.ite (.cmp .neq (.rune (.v 0 .str) (.v 1 (.int .i64))) (.n .i32 95))
       (.ret [(.b false)])
       (.jump 0 [(.v 0 .str), (.rnext (.v 0 .str) (.v 1 (.int .i64))), (.v 2 .bool)]))
      (.ite (.cmp .gtr (.rune (.v 0 .str) (.v 1 (.int .i64))) (.n .i32 57))
       (.ite (.cmp .neq (.rune (.v 0 .str) (.v 1 (.int .i64))) (.n .i32 95))
        (.ret [(.b false)])
        (.jump 0 [(.v 0 .str), (.rnext (.v 0 .str) (.v 1 (.int .i64))), (.v 2 .bool)]))
       (.jump 0 [(.v 0 .str), (.rnext (.v 0 .str) (.v 1 (.int .i64))), (.v 2 .bool)]))))
    (.jump 0 [(.v 0 .str), (.rnext (.v 0 .str) (.v 1 (.int .i64))), (.v 2 .bool)]))
   (.ite (.not (.b false))
    (.ite (.cmp .eql (.v 1 (.int .i64)) (.n .i64 0))
     (.ret [(.b false)])
     (.ite (.cmp .lss (.rune (.v 0 .str) (.v 1 (.int .i64))) (.n .i32 48))
      (.ite (.cmp .neq (.rune (.v 0 .str) (.v 1 (.int .i64))) (.n .i32 95))
       (.ret [(.b false)])
       (.jump 0 [(.v 0 .str), (.rnext (.v 0 .str) (.v 1 (.int .i64))), (.v 2 .bool)]))
      (.ite (.cmp .gtr (.rune (.v 0 .str) (.v 1 (.int .i64))) (.n .i32 57))
       (.ite (.cmp .neq (.rune (.v 0 .str) (.v 1 (.int .i64))) (.n .i32 95))
        (.ret [(.b false)])
        (.jump 0 [(.v 0 .str), (.rnext (.v 0 .str) (.v 1 (.int .i64))), (.v 2 .bool)]))
       (.jump 0 [(.v 0 .str), (.rnext (.v 0 .str) (.v 1 (.int .i64))), (.v 2 .bool)]))))
    (.jump 0 [(.v 0 .str), (.rnext (.v 0 .str) (.v 1 (.int .i64))), (.v 2 .bool)])))
  (.call 50 [(.one .str)] [(.v 0 .str)] [(.one .bool)]
  (.ret [(.not (.v 3 .bool))])))
def B_protocol_ValidName : Nat → T
  | 0 => t0_protocol_ValidName
  | _ => .dead
theorem ok_protocol_ValidName : c_protocol_ValidName.Ok 25 B_protocol_ValidName := ok_of Tryd.func25 (by kernel_rfl) mixed
  (.cons (n := 100000) (by kernel_rfl) (.nil))
theorem correct_protocol_ValidName {ds rs : List D} (h : Ev (Corr Tryd.prog lay) B_protocol_ValidName t_protocol_ValidName ds rs) : Corr Tryd.prog lay 25 k_protocol_ValidName ds r_protocol_ValidName rs :=
  correct_of ok_protocol_ValidName (n := 100000) (t := t_protocol_ValidName) (by kernel_rfl) (by kernel_rfl) h
noncomputable def S_protocol_ValidName : Nat → List D → List D
  | 50, ds => s_protocol_isReserved ds
  | _, _ => []
def P_protocol_ValidName : Nat → List K → List D → List K → Prop
  | 50, ks, ds, rk => ks = k_protocol_isReserved ∧ rk = r_protocol_isReserved ∧ p_protocol_isReserved ds
  | _, _, _, _ => False
theorem use_protocol_ValidName : ∀ g ks ds rk xs, ByS P_protocol_ValidName S_protocol_ValidName g ks ds rk xs → Corr Tryd.prog lay g ks ds rk xs := by
  intro g ks ds rk xs h
  obtain ⟨h1, rfl⟩ := h
  unfold P_protocol_ValidName at h1
  split at h1
  · obtain ⟨rfl, rfl, h1⟩ := h1; exact spec_protocol_isReserved ds h1
  · exact h1.elim
theorem spec_of_protocol_ValidName (law : ∀ ds, D.wts (K.tyss k_protocol_ValidName) ds → p_protocol_ValidName ds → Ev (ByS P_protocol_ValidName S_protocol_ValidName) B_protocol_ValidName t_protocol_ValidName ds (s_protocol_ValidName ds)) : ∀ ds, p_protocol_ValidName ds → Corr Tryd.prog lay 25 k_protocol_ValidName ds r_protocol_ValidName (s_protocol_ValidName ds) :=
  fun ds hp => .of_wt (by decide) fun hw => correct_protocol_ValidName ((law ds hw hp).monoC use_protocol_ValidName)
theorem u8_lower (b : UInt8) : lower b = decide (97 ≤ b.toNat ∧ b.toNat ≤ 122) := by simp [lower, UInt8.le_iff_toNat_le]
theorem u8_inName (b : UInt8) : inName b = (decide (97 ≤ b.toNat ∧ b.toNat ≤ 122) || (decide (48 ≤ b.toNat ∧ b.toNat ≤ 57) || decide (b.toNat = 95))) := by
  have : (b == 95) = decide (b.toNat = 95) := by
    rw [Bool.eq_iff_iff, beq_iff_eq, decide_eq_true_eq, ← UInt8.toNat_inj]; rfl
  rw [inName, u8_lower, this]
  simp [UInt8.le_iff_toNat_le]
def restOk (l : List UInt8) (p : Nat) : Bool := (if p = 0 then (match l with | [] => true | b :: _ => lower b) else true) && (l.drop p).all inName && !reservedL.contains l
theorem loop_protocol_ValidName (s : ByteArray) (_hs : s.size ≤ 12) (st : D) : ∀ (m p : Nat), s.size - p = m → p ≤ s.size →
    Ev (ByS P_protocol_ValidName S_protocol_ValidName) B_protocol_ValidName t0_protocol_ValidName [.str s, .int .i64 p, st] [.bool (restOk s.data.toList p)] := by
  intro m
  induction m with
  | zero =>
    intro p hm h1
    have hp : p = s.size := by omega
    subst hp
    have hd : s.data.toList.drop s.size = [] := List.drop_eq_nil_iff.2 (by rw [Array.length_toList]; exact Nat.le_refl _)
    have hr : restOk s.data.toList s.size = !reservedL.contains s.data.toList := by
      unfold restOk
      rw [hd]
      by_cases h0 : s.size = 0
      · have : s.data.toList = [] := List.length_eq_zero_iff.1 (by rw [Array.length_toList]; exact h0)
        simp [this]
      · simp [h0]
    rw [hr]
    simp [t0_protocol_ValidName, P_protocol_ValidName, S_protocol_ValidName, k_protocol_isReserved, r_protocol_isReserved, p_protocol_isReserved, s_protocol_isReserved, txt, K.rts, K.otyss, K.otys, K.tyss, K.tys, Ev.ite_iff, Ev.ret_iff, Ev.call_iff, E.dens, E.den, cmpD]
  | succ m ih =>
    intro p hm h1
    have hlt : p < s.size := by omega
    have hll : p < s.data.toList.length := by rw [Array.length_toList]; exact hlt
    have hget : s.data.toList[p] = s[p] := by simp; rfl
    have hdrop : s.data.toList.drop p = s[p] :: s.data.toList.drop (p + 1) := by rw [List.drop_eq_getElem_cons hll, hget]
    have hhead : p = 0 → (match s.data.toList with | [] => true | b :: _ => lower b) = lower s[p] := by
      intro h0; subst h0
      rw [List.drop_zero] at hdrop
      rw [hdrop]
    have hF : (inName s[p] = false ∨ (p = 0 ∧ lower s[p] = false)) → restOk s.data.toList p = false := by
      intro h
      unfold restOk
      rw [hdrop, List.all_cons]
      rcases h with h | ⟨h0, h⟩
      · simp [h]
      · rw [if_pos h0, hhead h0, h]; simp
    have hJ : inName s[p] = true → (p = 0 → lower s[p] = true) → restOk s.data.toList p = restOk s.data.toList (p + 1) := by
      intro h h'
      unfold restOk
      rw [hdrop, List.all_cons, h]
      by_cases h0 : p = 0
      · rw [if_pos h0, hhead h0, h' h0]; simp
      · rw [if_neg h0]; simp
    have hnext := ih (p + 1) (by omega) (by omega)
    rw [u8_inName, u8_lower] at hF hJ
    by_cases ha : (s[p]).toNat < 128
    · have hdec := decode_ascii s p hlt ha
      have hw : ((p : Int) + 1) = ((p + 1 : Nat) : Int) := by simp
      generalize hn : (s[p]).toNat = n at *
      simp [t0_protocol_ValidName, Ev.ite_iff, Ev.ret_iff, Ev.jump_iff, E.dens, E.den, cmpD, hlt, hdec]
      have go : ∀ (h : (decide (97 ≤ n ∧ n ≤ 122) || (decide (48 ≤ n ∧ n ≤ 57) || decide (n = 95))) = true) (h' : p = 0 → decide (97 ≤ n ∧ n ≤ 122) = true),
          Ev (ByS P_protocol_ValidName S_protocol_ValidName) B_protocol_ValidName (B_protocol_ValidName 0) [.str s, .int .i64 ((p : Int) + 1), st] [.bool (restOk s.data.toList p)] := fun h h' => by
        rw [hJ h h', hw]; exact hnext
      repeat' split
      all_goals first
        | (apply go <;> simp <;> omega)
        | (rw [hF (by simp; omega)])
    · have hdec := decode_high s p hlt (by omega)
      obtain ⟨hd1, _⟩ := hdec
      have hres : restOk s.data.toList p = false := hF (by simp; omega)
      rw [hres]
      simp [t0_protocol_ValidName, Ev.ite_iff, Ev.ret_iff, Ev.jump_iff, E.dens, E.den, cmpD, hlt]
      have hd2 : (128 : Int) ≤ ((Utf8.decode s p).1 : Int) := by omega
      repeat' split
      all_goals first
        | rfl
        | trivial
        | (exfalso; omega)
        | (intros; exfalso; omega)
theorem law_protocol_ValidName (ds : List D) (hw : D.wts (K.tyss k_protocol_ValidName) ds) (hp : p_protocol_ValidName ds) : Ev (ByS P_protocol_ValidName S_protocol_ValidName) B_protocol_ValidName t_protocol_ValidName ds (s_protocol_ValidName ds) := by
  obtain ⟨a0, _, rfl, ha0, rfl⟩ := hw
  obtain ⟨s, rfl⟩ := ha0
  have hlen : s.data.toList.length = s.size := Array.length_toList
  have hv : validL s.data.toList = (decide (s.data.toList ≠ []) && (decide (s.size ≤ 12) && restOk s.data.toList 0)) := by
    unfold validL restOk
    rw [hlen]
    cases h : s.data.toList with
    | nil => rw [h] at hlen; simp
    | cons b l =>
      rw [h] at hlen
      have : 1 ≤ s.size := by rw [← hlen]; simp
      simp [this, Bool.and_assoc]
  simp only [s_protocol_ValidName, txt, nth, List.getD_cons_zero, D.toS, hv]
  have hem : (ByteArray.mk #[]).data.toList = [] := rfl
  simp only [t_protocol_ValidName, Ev.ite_iff, E.den, D.toB_bool, List.getD_cons_zero, D.toS, scmpD_eql, hem]
  by_cases h0 : s.data.toList = []
  · simp [h0, Ev.ret_iff, E.dens, E.den]
  · by_cases h12 : s.size ≤ 12
    · have := loop_protocol_ValidName s h12 (.bool false) s.size 0 rfl (Nat.zero_le _)
      have h12' : ¬ ((s.size : Int) > 12) := by omega
      simp only [h0, h12, h12', cmpD, D.toI, decide_false, decide_true, Bool.false_eq_true, if_false, ne_eq, not_false_eq_true, Bool.true_and, Ev.jump_iff, B_protocol_ValidName, E.dens, E.den, List.getD_cons_zero]
      exact this
    · have h12' : (s.size : Int) > 12 := by omega
      simp [h0, h12, h12', cmpD, Ev.ret_iff, E.dens, E.den]

theorem spec_protocol_ValidName : ∀ ds, p_protocol_ValidName ds → Corr Tryd.prog lay 25 k_protocol_ValidName ds r_protocol_ValidName (s_protocol_ValidName ds) := spec_of_protocol_ValidName law_protocol_ValidName
/- familycheck/familychecklaw02.known -/
def k_law02_known : List K := []
def r_law02_known : List K := [(.one .bool)]
def b_law02_known : List Blk := []
noncomputable def c_law02_known : Ctx := mkCtx Tryd.prog lay Tryd.f9 ⟨[(24, [(.one .str)]), (25, [(.one .bool)])], [], []⟩ k_law02_known r_law02_known [] b_law02_known
def t_law02_known : T :=
 (.call 24 [(.agg [(.int .i64), (.int .i64), (.int .i64), (.int .i64)])] [(.n .i64 (-1)), (.n .i64 1), (.n .i64 (-3)), (.n .i64 0)] [(.one .str)]
 (.ite (.scmp .eql (.v 0 .str) (.s ⟨#[110, 45, 51, 42, 116, 45, 49]⟩))
  (.call 25 [(.one .str)] [(.s ⟨#[118, 48]⟩)] [(.one .bool)]
  (.ite (.v 1 .bool)
   (.call 25 [(.one .str)] [(.s ⟨#[108, 105, 110, 101]⟩)] [(.one .bool)]
   (.ite (.not (.v 2 .bool))
    (.call 25 [(.one .str)] [(.s ⟨#[]⟩)] [(.one .bool)]
    (.ret [(.not (.v 3 .bool))]))
    (.ret [(.b false)])))
   (.ret [(.b false)])))
  (.ret [(.b false)])))
def B_law02_known : Nat → T
  | _ => .dead
theorem ok_law02_known : c_law02_known.Ok 9 B_law02_known := ok_of Tryd.func9 (by kernel_rfl) mixed
  (.nil)
theorem correct_law02_known {ds rs : List D} (h : Ev (Corr Tryd.prog lay) B_law02_known t_law02_known ds rs) : Corr Tryd.prog lay 9 k_law02_known ds r_law02_known rs :=
  correct_of ok_law02_known (n := 100000) (t := t_law02_known) (by kernel_rfl) (by kernel_rfl) h
noncomputable def S_law02_known : Nat → List D → List D
  | 24, ds => s_protocol_FormatLinear ds
  | 25, ds => s_protocol_ValidName ds
  | _, _ => []
def P_law02_known : Nat → List K → List D → List K → Prop
  | 24, ks, ds, rk => ks = k_protocol_FormatLinear ∧ rk = r_protocol_FormatLinear ∧ p_protocol_FormatLinear ds
  | 25, ks, ds, rk => ks = k_protocol_ValidName ∧ rk = r_protocol_ValidName ∧ p_protocol_ValidName ds
  | _, _, _, _ => False
theorem use_law02_known : ∀ g ks ds rk xs, ByS P_law02_known S_law02_known g ks ds rk xs → Corr Tryd.prog lay g ks ds rk xs := by
  intro g ks ds rk xs h
  obtain ⟨h1, rfl⟩ := h
  unfold P_law02_known at h1
  split at h1
  · obtain ⟨rfl, rfl, h1⟩ := h1; exact spec_protocol_FormatLinear ds h1
  · obtain ⟨rfl, rfl, h1⟩ := h1; exact spec_protocol_ValidName ds h1
  · exact h1.elim
theorem spec_of_law02_known (law : ∀ ds, D.wts (K.tyss k_law02_known) ds → p_law02_known ds → Ev (ByS P_law02_known S_law02_known) B_law02_known t_law02_known ds (s_law02_known ds)) : ∀ ds, p_law02_known ds → Corr Tryd.prog lay 9 k_law02_known ds r_law02_known (s_law02_known ds) :=
  fun ds hp => .of_wt (by decide) fun hw => correct_law02_known ((law ds hw hp).monoC use_law02_known)
theorem law_law02_known (ds : List D) (hw : D.wts (K.tyss k_law02_known) ds) (hp : p_law02_known ds) : Ev (ByS P_law02_known S_law02_known) B_law02_known t_law02_known ds (s_law02_known ds) := by
  have h1 : fmtLin (-1) 1 (-3) 0 = [110, 45, 51, 42, 116, 45, 49] := by decide +kernel
  have h2 : validL [118, 48] = true := by decide +kernel
  have h3 : validL [108, 105, 110, 101] = false := by decide +kernel
  have h4 : validL [] = false := by decide +kernel
  have h5 : fewI (-1) 1 (-3) 0 = true := by decide
  obtain rfl : ds = [] := hw
  simp [t_law02_known, s_law02_known, P_law02_known, S_law02_known, k_protocol_FormatLinear, r_protocol_FormatLinear, k_protocol_ValidName, r_protocol_ValidName, s_protocol_FormatLinear, p_protocol_FormatLinear, s_protocol_ValidName, p_protocol_ValidName, K.rts, K.otyss, K.otys, CK.tyss, CK.tys, K.tyss, K.tys, Ev.ite_iff, Ev.ret_iff, Ev.call_iff, E.dens, E.den, cmpD, scmpD_eql, txt, few4, h1, h2, h3, h4, h5]

theorem spec_law02_known : ∀ ds, p_law02_known ds → Corr Tryd.prog lay 9 k_law02_known ds r_law02_known (s_law02_known ds) := spec_of_law02_known law_law02_known
/- slices.Equal[[]string,string] -/
def k_slices_Equal_string : List K := [(.one (.slc [.str])), (.one (.slc [.str]))]
def r_slices_Equal_string : List K := [(.one .bool)]
def b_slices_Equal_string : List Blk := [{ st := [.code [0, 0, 0, 1, 0, 1, 1], .code [1, 0, 0, 1, 0, 1, 1], .inLoop [0, 1, 0, 1, 1], .inBlock 0, .code [1, 1, 1]], σ := { t := [(0, (.sc (.v 0 (.slc [.str])))), (1, (.sc (.v 1 (.slc [.str])))), (4, (.sc (.v 2 .bool))), (12, (.sc (.v 3 (.int .i64)))), (13, (.sc (.v 4 (.int .i64))))], o := [] }, tys := [(.slc [.str]), (.slc [.str]), .bool, (.int .i64), (.int .i64)] }]
noncomputable def c_slices_Equal_string : Ctx := mkCtx Tryd.prog lay Tryd.f33 ⟨[], [], []⟩ k_slices_Equal_string r_slices_Equal_string [(4, 0)] b_slices_Equal_string
def t_slices_Equal_string : T :=
 (.ite (.cmp .neq (.len (.v 0 (.slc [.str]))) (.len (.v 1 (.slc [.str]))))
  (.ret [(.b false)])
  (.jump 0 [(.v 0 (.slc [.str])), (.v 1 (.slc [.str])), (.b false), (.len (.v 0 (.slc [.str]))), (.n .i64 0)]))
def t0_slices_Equal_string : T :=
 (.ite (.cmp .lss (.v 4 (.int .i64)) (.v 3 (.int .i64)))
  (.guard (.and (.cmp .geq (.v 4 (.int .i64)) (.n .i64 0)) (.cmp .lss (.v 4 (.int .i64)) (.len (.v 0 (.slc [.str])))))
  (.guard (.and (.cmp .geq (.v 4 (.int .i64)) (.n .i64 0)) (.cmp .lss (.v 4 (.int .i64)) (.len (.v 1 (.slc [.str])))))
  (.ite (.scmp .neq (.cell (.v 0 (.slc [.str])) (.v 4 (.int .i64)) 0 .str) (.cell (.v 1 (.slc [.str])) (.v 4 (.int .i64)) 0 .str))
   (.ret [(.b false)])
   (.jump 0 [(.v 0 (.slc [.str])), (.v 1 (.slc [.str])), (.v 2 .bool), (.v 3 (.int .i64)), (.ar .add .i64 (.v 4 (.int .i64)) (.n .i64 1))]))))
  (.ret [(.b true)]))
def B_slices_Equal_string : Nat → T
  | 0 => t0_slices_Equal_string
  | _ => .dead
theorem ok_slices_Equal_string : c_slices_Equal_string.Ok 33 B_slices_Equal_string := ok_of Tryd.func33 (by kernel_rfl) mixed
  (.cons (n := 100000) (by kernel_rfl) (.nil))
theorem correct_slices_Equal_string {ds rs : List D} (h : Ev (Corr Tryd.prog lay) B_slices_Equal_string t_slices_Equal_string ds rs) : Corr Tryd.prog lay 33 k_slices_Equal_string ds r_slices_Equal_string rs :=
  correct_of ok_slices_Equal_string (n := 100000) (t := t_slices_Equal_string) (by kernel_rfl) (by kernel_rfl) h
noncomputable def S_slices_Equal_string : Nat → List D → List D
  | _, _ => []
def P_slices_Equal_string : Nat → List K → List D → List K → Prop
  | _, _, _, _ => False
theorem use_slices_Equal_string : ∀ g ks ds rk xs, ByS P_slices_Equal_string S_slices_Equal_string g ks ds rk xs → Corr Tryd.prog lay g ks ds rk xs := by
  intro g ks ds rk xs h
  obtain ⟨h1, rfl⟩ := h
  unfold P_slices_Equal_string at h1
  split at h1
  · exact h1.elim
theorem spec_of_slices_Equal_string (law : ∀ ds, D.wts (K.tyss k_slices_Equal_string) ds → p_slices_Equal_string ds → Ev (ByS P_slices_Equal_string S_slices_Equal_string) B_slices_Equal_string t_slices_Equal_string ds (s_slices_Equal_string ds)) : ∀ ds, p_slices_Equal_string ds → Corr Tryd.prog lay 33 k_slices_Equal_string ds r_slices_Equal_string (s_slices_Equal_string ds) :=
  fun ds hp => .of_wt (by decide) fun hw => correct_slices_Equal_string ((law ds hw hp).monoC use_slices_Equal_string)
theorem loop_slices_Equal_string (es fs : List (List D)) (hl : es.length = fs.length) (he : es.length ≤ maxLen) (hes : ∀ c ∈ es, D.wts [.str] c) (hfs : ∀ c ∈ fs, D.wts [.str] c) (st : D) : ∀ (m i : Nat), es.length - i = m → i ≤ es.length →
    Ev (ByS P_slices_Equal_string S_slices_Equal_string) B_slices_Equal_string (B_slices_Equal_string 0) [.slc es, .slc fs, st, .int .i64 es.length, .int .i64 i] [.bool (same (es.drop i) (fs.drop i))] := by
  intro m
  induction m with
  | zero =>
    intro i hm h1
    have hi : ¬ (i < es.length) := by omega
    rw [List.drop_eq_nil_iff.2 (by omega), List.drop_eq_nil_iff.2 (by omega), same_nil]
    show Ev _ _ t0_slices_Equal_string _ _
    simp [t0_slices_Equal_string, Ev.call_iff, Ev.ite_iff, Ev.guard_iff, Ev.ret_iff, Ev.jump_iff, E.dens, E.denss, E.den, cmpD, arD, scmpD, hi]
  | succ m ih =>
    intro i hm h1
    have hlt : i < es.length := by omega
    have hlt2 : i < fs.length := by omega
    have hw : IntKind.i64.wrap ((i : Int) + 1) = (i : Int) + 1 := by rw [wrap64 (by omega) (by unfold maxLen at *; omega)]
    have hnext := ih (i + 1) (by omega) (by omega)
    rw [Int.natCast_add, Int.natCast_one] at hnext
    rw [List.drop_eq_getElem_cons hlt, List.drop_eq_getElem_cons hlt2, same_cons]
    obtain ⟨x0_, _, ha, ⟨x0, rfl⟩, rfl⟩ := hes es[i] (List.getElem_mem hlt)
    obtain ⟨y0_, _, hb, ⟨y0, rfl⟩, rfl⟩ := hfs fs[i] (List.getElem_mem hlt2)
    have hrow : same es[i] fs[i] = decide (x0.data.toList = y0.data.toList) := by
      rw [ha, hb]
      simp only [same_cons, same_nil, same_str, same_int, Bool.and_true, Bool.decide_and]
    show Ev _ _ t0_slices_Equal_string _ _
    by_cases hc : x0.data.toList = y0.data.toList
    · rw [hrow, decide_eq_true hc, Bool.true_and]
      simp [t0_slices_Equal_string, Ev.call_iff, Ev.ite_iff, Ev.guard_iff, Ev.ret_iff, Ev.jump_iff, E.dens, E.denss, E.den, cmpD, arD, scmpD, ByteArray.toList_eq, hlt, hlt2, hw, ha, hb, hc]
      exact hnext
    · rw [hrow, decide_eq_false hc, Bool.false_and]
      simp [t0_slices_Equal_string, Ev.call_iff, Ev.ite_iff, Ev.guard_iff, Ev.ret_iff, Ev.jump_iff, E.dens, E.denss, E.den, cmpD, arD, scmpD, ByteArray.toList_eq, hlt, hlt2, hw, ha, hb]
      try (repeat' split) 
      all_goals first | rfl | (intros; simp_all)
theorem law_slices_Equal_string (ds : List D) (hw : D.wts (K.tyss k_slices_Equal_string) ds) (hp : p_slices_Equal_string ds) : Ev (ByS P_slices_Equal_string S_slices_Equal_string) B_slices_Equal_string t_slices_Equal_string ds (s_slices_Equal_string ds) := by
  obtain ⟨a0, _, rfl, ha0, a1, _, rfl, ha1, rfl⟩ := hw
  obtain ⟨es, rfl, he, hes⟩ := ha0
  obtain ⟨fs, rfl, hf, hfs⟩ := ha1
  have hd : same (D.slc es) (D.slc fs) = same es fs := same_slc es fs
  by_cases hl : es.length = fs.length
  · have loop := loop_slices_Equal_string es fs hl he hes hfs (.bool false) _ 0 rfl (Nat.zero_le _)
    rw [List.drop_zero, List.drop_zero] at loop
    simp [t_slices_Equal_string, s_slices_Equal_string, Ev.ite_iff, Ev.ret_iff, Ev.jump_iff, E.dens, E.den, cmpD, hl, hd]
    rw [hl] at loop
    exact loop
  · have hl' : ¬ ((es.length : Int) = fs.length) := by omega
    have hne : same es fs = false := same_ne (fun h => hl (by rw [h]))
    simp [t_slices_Equal_string, s_slices_Equal_string, Ev.ite_iff, Ev.ret_iff, Ev.jump_iff, E.dens, E.den, cmpD, hl, hl', hd, hne]

theorem spec_slices_Equal_string : ∀ ds, p_slices_Equal_string ds → Corr Tryd.prog lay 33 k_slices_Equal_string ds r_slices_Equal_string (s_slices_Equal_string ds) := spec_of_slices_Equal_string law_slices_Equal_string
/- slices.Equal[[]familycheck/api.Linear,familycheck/api.Linear] -/
def k_slices_Equal_Linear : List K := [(.one (.slc [(.int .i64), (.int .i64), (.int .i64), (.int .i64)])), (.one (.slc [(.int .i64), (.int .i64), (.int .i64), (.int .i64)]))]
def r_slices_Equal_Linear : List K := [(.one .bool)]
def b_slices_Equal_Linear : List Blk := [{ st := [.code [0, 0, 0, 1, 0, 1, 1], .code [1, 0, 0, 1, 0, 1, 1], .inLoop [0, 1, 0, 1, 1], .inBlock 0, .code [1, 1, 1]], σ := { t := [(0, (.sc (.v 0 (.slc [(.int .i64), (.int .i64), (.int .i64), (.int .i64)])))), (1, (.sc (.v 1 (.slc [(.int .i64), (.int .i64), (.int .i64), (.int .i64)])))), (4, (.sc (.v 2 .bool))), (12, (.sc (.v 3 (.int .i64)))), (13, (.sc (.v 4 (.int .i64))))], o := [] }, tys := [(.slc [(.int .i64), (.int .i64), (.int .i64), (.int .i64)]), (.slc [(.int .i64), (.int .i64), (.int .i64), (.int .i64)]), .bool, (.int .i64), (.int .i64)] }]
noncomputable def c_slices_Equal_Linear : Ctx := mkCtx Tryd.prog lay Tryd.f34 ⟨[], [], []⟩ k_slices_Equal_Linear r_slices_Equal_Linear [(4, 0)] b_slices_Equal_Linear
def t_slices_Equal_Linear : T :=
 (.ite (.cmp .neq (.len (.v 0 (.slc [(.int .i64), (.int .i64), (.int .i64), (.int .i64)]))) (.len (.v 1 (.slc [(.int .i64), (.int .i64), (.int .i64), (.int .i64)]))))
  (.ret [(.b false)])
  (.jump 0 [(.v 0 (.slc [(.int .i64), (.int .i64), (.int .i64), (.int .i64)])), (.v 1 (.slc [(.int .i64), (.int .i64), (.int .i64), (.int .i64)])), (.b false), (.len (.v 0 (.slc [(.int .i64), (.int .i64), (.int .i64), (.int .i64)]))), (.n .i64 0)]))
def t0_slices_Equal_Linear : T :=
 (.ite (.cmp .lss (.v 4 (.int .i64)) (.v 3 (.int .i64)))
  (.guard (.and (.cmp .geq (.v 4 (.int .i64)) (.n .i64 0)) (.cmp .lss (.v 4 (.int .i64)) (.len (.v 0 (.slc [(.int .i64), (.int .i64), (.int .i64), (.int .i64)])))))
  (.guard (.and (.cmp .geq (.v 4 (.int .i64)) (.n .i64 0)) (.cmp .lss (.v 4 (.int .i64)) (.len (.v 1 (.slc [(.int .i64), (.int .i64), (.int .i64), (.int .i64)])))))
  (.ite (.not (.and (.cmp .eql (.cell (.v 0 (.slc [(.int .i64), (.int .i64), (.int .i64), (.int .i64)])) (.v 4 (.int .i64)) 0 (.int .i64)) (.cell (.v 1 (.slc [(.int .i64), (.int .i64), (.int .i64), (.int .i64)])) (.v 4 (.int .i64)) 0 (.int .i64))) (.and (.cmp .eql (.cell (.v 0 (.slc [(.int .i64), (.int .i64), (.int .i64), (.int .i64)])) (.v 4 (.int .i64)) 1 (.int .i64)) (.cell (.v 1 (.slc [(.int .i64), (.int .i64), (.int .i64), (.int .i64)])) (.v 4 (.int .i64)) 1 (.int .i64))) (.and (.cmp .eql (.cell (.v 0 (.slc [(.int .i64), (.int .i64), (.int .i64), (.int .i64)])) (.v 4 (.int .i64)) 2 (.int .i64)) (.cell (.v 1 (.slc [(.int .i64), (.int .i64), (.int .i64), (.int .i64)])) (.v 4 (.int .i64)) 2 (.int .i64))) (.and (.cmp .eql (.cell (.v 0 (.slc [(.int .i64), (.int .i64), (.int .i64), (.int .i64)])) (.v 4 (.int .i64)) 3 (.int .i64)) (.cell (.v 1 (.slc [(.int .i64), (.int .i64), (.int .i64), (.int .i64)])) (.v 4 (.int .i64)) 3 (.int .i64))) (.b true))))))
   (.ret [(.b false)])
   (.jump 0 [(.v 0 (.slc [(.int .i64), (.int .i64), (.int .i64), (.int .i64)])), (.v 1 (.slc [(.int .i64), (.int .i64), (.int .i64), (.int .i64)])), (.v 2 .bool), (.v 3 (.int .i64)), (.ar .add .i64 (.v 4 (.int .i64)) (.n .i64 1))]))))
  (.ret [(.b true)]))
def B_slices_Equal_Linear : Nat → T
  | 0 => t0_slices_Equal_Linear
  | _ => .dead
theorem ok_slices_Equal_Linear : c_slices_Equal_Linear.Ok 34 B_slices_Equal_Linear := ok_of Tryd.func34 (by kernel_rfl) mixed
  (.cons (n := 100000) (by kernel_rfl) (.nil))
theorem correct_slices_Equal_Linear {ds rs : List D} (h : Ev (Corr Tryd.prog lay) B_slices_Equal_Linear t_slices_Equal_Linear ds rs) : Corr Tryd.prog lay 34 k_slices_Equal_Linear ds r_slices_Equal_Linear rs :=
  correct_of ok_slices_Equal_Linear (n := 100000) (t := t_slices_Equal_Linear) (by kernel_rfl) (by kernel_rfl) h
noncomputable def S_slices_Equal_Linear : Nat → List D → List D
  | _, _ => []
def P_slices_Equal_Linear : Nat → List K → List D → List K → Prop
  | _, _, _, _ => False
theorem use_slices_Equal_Linear : ∀ g ks ds rk xs, ByS P_slices_Equal_Linear S_slices_Equal_Linear g ks ds rk xs → Corr Tryd.prog lay g ks ds rk xs := by
  intro g ks ds rk xs h
  obtain ⟨h1, rfl⟩ := h
  unfold P_slices_Equal_Linear at h1
  split at h1
  · exact h1.elim
theorem spec_of_slices_Equal_Linear (law : ∀ ds, D.wts (K.tyss k_slices_Equal_Linear) ds → p_slices_Equal_Linear ds → Ev (ByS P_slices_Equal_Linear S_slices_Equal_Linear) B_slices_Equal_Linear t_slices_Equal_Linear ds (s_slices_Equal_Linear ds)) : ∀ ds, p_slices_Equal_Linear ds → Corr Tryd.prog lay 34 k_slices_Equal_Linear ds r_slices_Equal_Linear (s_slices_Equal_Linear ds) :=
  fun ds hp => .of_wt (by decide) fun hw => correct_slices_Equal_Linear ((law ds hw hp).monoC use_slices_Equal_Linear)
theorem loop_slices_Equal_Linear (es fs : List (List D)) (hl : es.length = fs.length) (he : es.length ≤ maxLen) (hes : ∀ c ∈ es, D.wts [.int .i64, .int .i64, .int .i64, .int .i64] c) (hfs : ∀ c ∈ fs, D.wts [.int .i64, .int .i64, .int .i64, .int .i64] c) (st : D) : ∀ (m i : Nat), es.length - i = m → i ≤ es.length →
    Ev (ByS P_slices_Equal_Linear S_slices_Equal_Linear) B_slices_Equal_Linear (B_slices_Equal_Linear 0) [.slc es, .slc fs, st, .int .i64 es.length, .int .i64 i] [.bool (same (es.drop i) (fs.drop i))] := by
  intro m
  induction m with
  | zero =>
    intro i hm h1
    have hi : ¬ (i < es.length) := by omega
    rw [List.drop_eq_nil_iff.2 (by omega), List.drop_eq_nil_iff.2 (by omega), same_nil]
    show Ev _ _ t0_slices_Equal_Linear _ _
    simp [t0_slices_Equal_Linear, Ev.call_iff, Ev.ite_iff, Ev.guard_iff, Ev.ret_iff, Ev.jump_iff, E.dens, E.denss, E.den, cmpD, arD, scmpD, hi]
  | succ m ih =>
    intro i hm h1
    have hlt : i < es.length := by omega
    have hlt2 : i < fs.length := by omega
    have hw : IntKind.i64.wrap ((i : Int) + 1) = (i : Int) + 1 := by rw [wrap64 (by omega) (by unfold maxLen at *; omega)]
    have hnext := ih (i + 1) (by omega) (by omega)
    rw [Int.natCast_add, Int.natCast_one] at hnext
    rw [List.drop_eq_getElem_cons hlt, List.drop_eq_getElem_cons hlt2, same_cons]
    obtain ⟨x0_, _, ha, ⟨x0, rfl⟩, x1_, _, rfl, ⟨x1, rfl⟩, x2_, _, rfl, ⟨x2, rfl⟩, x3_, _, rfl, ⟨x3, rfl⟩, rfl⟩ := hes es[i] (List.getElem_mem hlt)
    obtain ⟨y0_, _, hb, ⟨y0, rfl⟩, y1_, _, rfl, ⟨y1, rfl⟩, y2_, _, rfl, ⟨y2, rfl⟩, y3_, _, rfl, ⟨y3, rfl⟩, rfl⟩ := hfs fs[i] (List.getElem_mem hlt2)
    have hrow : same es[i] fs[i] = decide (x0 = y0 ∧ x1 = y1 ∧ x2 = y2 ∧ x3 = y3) := by
      rw [ha, hb]
      simp only [same_cons, same_nil, same_str, same_int, Bool.and_true, Bool.decide_and]
    show Ev _ _ t0_slices_Equal_Linear _ _
    by_cases hc : x0 = y0 ∧ x1 = y1 ∧ x2 = y2 ∧ x3 = y3
    · rw [hrow, decide_eq_true hc, Bool.true_and]
      simp [t0_slices_Equal_Linear, Ev.call_iff, Ev.ite_iff, Ev.guard_iff, Ev.ret_iff, Ev.jump_iff, E.dens, E.denss, E.den, cmpD, arD, scmpD, ByteArray.toList_eq, hlt, hlt2, hw, ha, hb, hc]
      exact hnext
    · rw [hrow, decide_eq_false hc, Bool.false_and]
      simp [t0_slices_Equal_Linear, Ev.call_iff, Ev.ite_iff, Ev.guard_iff, Ev.ret_iff, Ev.jump_iff, E.dens, E.denss, E.den, cmpD, arD, scmpD, ByteArray.toList_eq, hlt, hlt2, hw, ha, hb]
      try (repeat' split) 
      all_goals first | rfl | (intros; simp_all)
theorem law_slices_Equal_Linear (ds : List D) (hw : D.wts (K.tyss k_slices_Equal_Linear) ds) (hp : p_slices_Equal_Linear ds) : Ev (ByS P_slices_Equal_Linear S_slices_Equal_Linear) B_slices_Equal_Linear t_slices_Equal_Linear ds (s_slices_Equal_Linear ds) := by
  obtain ⟨a0, _, rfl, ha0, a1, _, rfl, ha1, rfl⟩ := hw
  obtain ⟨es, rfl, he, hes⟩ := ha0
  obtain ⟨fs, rfl, hf, hfs⟩ := ha1
  have hd : same (D.slc es) (D.slc fs) = same es fs := same_slc es fs
  by_cases hl : es.length = fs.length
  · have loop := loop_slices_Equal_Linear es fs hl he hes hfs (.bool false) _ 0 rfl (Nat.zero_le _)
    rw [List.drop_zero, List.drop_zero] at loop
    simp [t_slices_Equal_Linear, s_slices_Equal_Linear, Ev.ite_iff, Ev.ret_iff, Ev.jump_iff, E.dens, E.den, cmpD, hl, hd]
    rw [hl] at loop
    exact loop
  · have hl' : ¬ ((es.length : Int) = fs.length) := by omega
    have hne : same es fs = false := same_ne (fun h => hl (by rw [h]))
    simp [t_slices_Equal_Linear, s_slices_Equal_Linear, Ev.ite_iff, Ev.ret_iff, Ev.jump_iff, E.dens, E.den, cmpD, hl, hl', hd, hne]

theorem spec_slices_Equal_Linear : ∀ ds, p_slices_Equal_Linear ds → Corr Tryd.prog lay 34 k_slices_Equal_Linear ds r_slices_Equal_Linear (s_slices_Equal_Linear ds) := spec_of_slices_Equal_Linear law_slices_Equal_Linear
/- slices.Equal[[]int,int] -/
def k_slices_Equal_int : List K := [(.one (.slc [(.int .i64)])), (.one (.slc [(.int .i64)]))]
def r_slices_Equal_int : List K := [(.one .bool)]
def b_slices_Equal_int : List Blk := [{ st := [.code [0, 0, 0, 1, 0, 1, 1], .code [1, 0, 0, 1, 0, 1, 1], .inLoop [0, 1, 0, 1, 1], .inBlock 0, .code [1, 1, 1]], σ := { t := [(0, (.sc (.v 0 (.slc [(.int .i64)])))), (1, (.sc (.v 1 (.slc [(.int .i64)])))), (4, (.sc (.v 2 .bool))), (12, (.sc (.v 3 (.int .i64)))), (13, (.sc (.v 4 (.int .i64))))], o := [] }, tys := [(.slc [(.int .i64)]), (.slc [(.int .i64)]), .bool, (.int .i64), (.int .i64)] }]
noncomputable def c_slices_Equal_int : Ctx := mkCtx Tryd.prog lay Tryd.f26 ⟨[], [], []⟩ k_slices_Equal_int r_slices_Equal_int [(4, 0)] b_slices_Equal_int
def t_slices_Equal_int : T :=
 (.ite (.cmp .neq (.len (.v 0 (.slc [(.int .i64)]))) (.len (.v 1 (.slc [(.int .i64)]))))
  (.ret [(.b false)])
  (.jump 0 [(.v 0 (.slc [(.int .i64)])), (.v 1 (.slc [(.int .i64)])), (.b false), (.len (.v 0 (.slc [(.int .i64)]))), (.n .i64 0)]))
def t0_slices_Equal_int : T :=
 (.ite (.cmp .lss (.v 4 (.int .i64)) (.v 3 (.int .i64)))
  (.guard (.and (.cmp .geq (.v 4 (.int .i64)) (.n .i64 0)) (.cmp .lss (.v 4 (.int .i64)) (.len (.v 0 (.slc [(.int .i64)])))))
  (.guard (.and (.cmp .geq (.v 4 (.int .i64)) (.n .i64 0)) (.cmp .lss (.v 4 (.int .i64)) (.len (.v 1 (.slc [(.int .i64)])))))
  (.ite (.cmp .neq (.cell (.v 0 (.slc [(.int .i64)])) (.v 4 (.int .i64)) 0 (.int .i64)) (.cell (.v 1 (.slc [(.int .i64)])) (.v 4 (.int .i64)) 0 (.int .i64)))
   (.ret [(.b false)])
   (.jump 0 [(.v 0 (.slc [(.int .i64)])), (.v 1 (.slc [(.int .i64)])), (.v 2 .bool), (.v 3 (.int .i64)), (.ar .add .i64 (.v 4 (.int .i64)) (.n .i64 1))]))))
  (.ret [(.b true)]))
def B_slices_Equal_int : Nat → T
  | 0 => t0_slices_Equal_int
  | _ => .dead
theorem ok_slices_Equal_int : c_slices_Equal_int.Ok 26 B_slices_Equal_int := ok_of Tryd.func26 (by kernel_rfl) mixed
  (.cons (n := 100000) (by kernel_rfl) (.nil))
theorem correct_slices_Equal_int {ds rs : List D} (h : Ev (Corr Tryd.prog lay) B_slices_Equal_int t_slices_Equal_int ds rs) : Corr Tryd.prog lay 26 k_slices_Equal_int ds r_slices_Equal_int rs :=
  correct_of ok_slices_Equal_int (n := 100000) (t := t_slices_Equal_int) (by kernel_rfl) (by kernel_rfl) h
noncomputable def S_slices_Equal_int : Nat → List D → List D
  | _, _ => []
def P_slices_Equal_int : Nat → List K → List D → List K → Prop
  | _, _, _, _ => False
theorem use_slices_Equal_int : ∀ g ks ds rk xs, ByS P_slices_Equal_int S_slices_Equal_int g ks ds rk xs → Corr Tryd.prog lay g ks ds rk xs := by
  intro g ks ds rk xs h
  obtain ⟨h1, rfl⟩ := h
  unfold P_slices_Equal_int at h1
  split at h1
  · exact h1.elim
theorem spec_of_slices_Equal_int (law : ∀ ds, D.wts (K.tyss k_slices_Equal_int) ds → p_slices_Equal_int ds → Ev (ByS P_slices_Equal_int S_slices_Equal_int) B_slices_Equal_int t_slices_Equal_int ds (s_slices_Equal_int ds)) : ∀ ds, p_slices_Equal_int ds → Corr Tryd.prog lay 26 k_slices_Equal_int ds r_slices_Equal_int (s_slices_Equal_int ds) :=
  fun ds hp => .of_wt (by decide) fun hw => correct_slices_Equal_int ((law ds hw hp).monoC use_slices_Equal_int)
theorem loop_slices_Equal_int (es fs : List (List D)) (hl : es.length = fs.length) (he : es.length ≤ maxLen) (hes : ∀ c ∈ es, D.wts [.int .i64] c) (hfs : ∀ c ∈ fs, D.wts [.int .i64] c) (st : D) : ∀ (m i : Nat), es.length - i = m → i ≤ es.length → es.take i = fs.take i →
    Ev (ByS P_slices_Equal_int S_slices_Equal_int) B_slices_Equal_int t0_slices_Equal_int [.slc es, .slc fs, st, .int .i64 es.length, .int .i64 i] [.bool (same (D.slc es) (D.slc fs))] := by
  intro m
  induction m with
  | zero =>
    intro i hm h1 ht
    have hi : ¬ (i < es.length) := by omega
    rw [same_eq (by rw [take_all hl (by omega) ht])]
    simp [t0_slices_Equal_int, Ev.ite_iff, Ev.guard_iff, Ev.ret_iff, Ev.jump_iff, E.dens, E.den, cmpD, arD, hi]
  | succ m ih =>
    intro i hm h1 ht
    have hlt : i < es.length := by omega
    have hlt2 : i < fs.length := by omega
    have hw : IntKind.i64.wrap ((i : Int) + 1) = ((i + 1 : Nat) : Int) := by rw [wrap64 (by omega) (by unfold maxLen at *; omega)]; simp
    obtain ⟨a, _, ha, ⟨x, rfl⟩, rfl⟩ := hes es[i] (List.getElem_mem hlt)
    obtain ⟨b, _, hb, ⟨y, rfl⟩, rfl⟩ := hfs fs[i] (List.getElem_mem hlt2)
    by_cases hxy : x = y
    · have := ih (i + 1) (by omega) (by omega) (take_step hlt hlt2 ht (by rw [ha, hb, hxy]))
      simp [t0_slices_Equal_int, Ev.ite_iff, Ev.guard_iff, Ev.ret_iff, Ev.jump_iff, E.dens, E.den, cmpD, arD, hlt, hlt2, hw, ha, hb, hxy]
      exact this
    · rw [same_ne (fun h => hxy (by
        injection h with h
        have := congrArg (·[i]?) h
        simp [hlt, hlt2, ha, hb] at this
        exact this))]
      simp [t0_slices_Equal_int, Ev.ite_iff, Ev.guard_iff, Ev.ret_iff, Ev.jump_iff, E.dens, E.den, cmpD, arD, hlt, hlt2, hw, ha, hb, hxy]
theorem law_slices_Equal_int (ds : List D) (hw : D.wts (K.tyss k_slices_Equal_int) ds) (hp : p_slices_Equal_int ds) : Ev (ByS P_slices_Equal_int S_slices_Equal_int) B_slices_Equal_int t_slices_Equal_int ds (s_slices_Equal_int ds) := by
  obtain ⟨a0, _, rfl, ha0, a1, _, rfl, ha1, rfl⟩ := hw
  obtain ⟨es, rfl, he, hes⟩ := ha0
  obtain ⟨fs, rfl, hf, hfs⟩ := ha1
  by_cases hl : es.length = fs.length
  · simp [t_slices_Equal_int, s_slices_Equal_int, Ev.ite_iff, Ev.ret_iff, Ev.jump_iff, E.dens, E.den, cmpD, hl]
    rw [← hl]
    exact loop_slices_Equal_int es fs hl he hes hfs _ _ 0 rfl (Nat.zero_le _) rfl
  · have hl' : ¬ ((es.length : Int) = fs.length) := by omega
    have hne : same (D.slc es) (D.slc fs) = false := same_ne (fun h => hl (by injection h with h; rw [h]))
    simp [t_slices_Equal_int, s_slices_Equal_int, Ev.ite_iff, Ev.ret_iff, Ev.jump_iff, E.dens, E.den, cmpD, hl, hl', hne]

theorem spec_slices_Equal_int : ∀ ds, p_slices_Equal_int ds → Corr Tryd.prog lay 26 k_slices_Equal_int ds r_slices_Equal_int (s_slices_Equal_int ds) := spec_of_slices_Equal_int law_slices_Equal_int
/- slices.Equal[[]familycheck/api.Threshold,familycheck/api.Threshold] -/
def k_slices_Equal_Threshold : List K := [(.one (.slc [(.int .i64), (.int .i64), (.int .i64), (.int .i64), (.int .i64), (.int .i64)])), (.one (.slc [(.int .i64), (.int .i64), (.int .i64), (.int .i64), (.int .i64), (.int .i64)]))]
def r_slices_Equal_Threshold : List K := [(.one .bool)]
def b_slices_Equal_Threshold : List Blk := [{ st := [.code [0, 0, 0, 1, 0, 1, 1], .code [1, 0, 0, 1, 0, 1, 1], .inLoop [0, 1, 0, 1, 1], .inBlock 0, .code [1, 1, 1]], σ := { t := [(0, (.sc (.v 0 (.slc [(.int .i64), (.int .i64), (.int .i64), (.int .i64), (.int .i64), (.int .i64)])))), (1, (.sc (.v 1 (.slc [(.int .i64), (.int .i64), (.int .i64), (.int .i64), (.int .i64), (.int .i64)])))), (4, (.sc (.v 2 .bool))), (12, (.sc (.v 3 (.int .i64)))), (13, (.sc (.v 4 (.int .i64))))], o := [] }, tys := [(.slc [(.int .i64), (.int .i64), (.int .i64), (.int .i64), (.int .i64), (.int .i64)]), (.slc [(.int .i64), (.int .i64), (.int .i64), (.int .i64), (.int .i64), (.int .i64)]), .bool, (.int .i64), (.int .i64)] }]
noncomputable def c_slices_Equal_Threshold : Ctx := mkCtx Tryd.prog lay Tryd.f58 ⟨[], [], []⟩ k_slices_Equal_Threshold r_slices_Equal_Threshold [(4, 0)] b_slices_Equal_Threshold
def t_slices_Equal_Threshold : T :=
 (.ite (.cmp .neq (.len (.v 0 (.slc [(.int .i64), (.int .i64), (.int .i64), (.int .i64), (.int .i64), (.int .i64)]))) (.len (.v 1 (.slc [(.int .i64), (.int .i64), (.int .i64), (.int .i64), (.int .i64), (.int .i64)]))))
  (.ret [(.b false)])
  (.jump 0 [(.v 0 (.slc [(.int .i64), (.int .i64), (.int .i64), (.int .i64), (.int .i64), (.int .i64)])), (.v 1 (.slc [(.int .i64), (.int .i64), (.int .i64), (.int .i64), (.int .i64), (.int .i64)])), (.b false), (.len (.v 0 (.slc [(.int .i64), (.int .i64), (.int .i64), (.int .i64), (.int .i64), (.int .i64)]))), (.n .i64 0)]))
def t0_slices_Equal_Threshold : T :=
 (.ite (.cmp .lss (.v 4 (.int .i64)) (.v 3 (.int .i64)))
  (.guard (.and (.cmp .geq (.v 4 (.int .i64)) (.n .i64 0)) (.cmp .lss (.v 4 (.int .i64)) (.len (.v 0 (.slc [(.int .i64), (.int .i64), (.int .i64), (.int .i64), (.int .i64), (.int .i64)])))))
  (.guard (.and (.cmp .geq (.v 4 (.int .i64)) (.n .i64 0)) (.cmp .lss (.v 4 (.int .i64)) (.len (.v 1 (.slc [(.int .i64), (.int .i64), (.int .i64), (.int .i64), (.int .i64), (.int .i64)])))))
  (.ite (.not (.and (.cmp .eql (.cell (.v 0 (.slc [(.int .i64), (.int .i64), (.int .i64), (.int .i64), (.int .i64), (.int .i64)])) (.v 4 (.int .i64)) 0 (.int .i64)) (.cell (.v 1 (.slc [(.int .i64), (.int .i64), (.int .i64), (.int .i64), (.int .i64), (.int .i64)])) (.v 4 (.int .i64)) 0 (.int .i64))) (.and (.cmp .eql (.cell (.v 0 (.slc [(.int .i64), (.int .i64), (.int .i64), (.int .i64), (.int .i64), (.int .i64)])) (.v 4 (.int .i64)) 1 (.int .i64)) (.cell (.v 1 (.slc [(.int .i64), (.int .i64), (.int .i64), (.int .i64), (.int .i64), (.int .i64)])) (.v 4 (.int .i64)) 1 (.int .i64))) (.and (.and (.cmp .eql (.cell (.v 0 (.slc [(.int .i64), (.int .i64), (.int .i64), (.int .i64), (.int .i64), (.int .i64)])) (.v 4 (.int .i64)) 2 (.int .i64)) (.cell (.v 1 (.slc [(.int .i64), (.int .i64), (.int .i64), (.int .i64), (.int .i64), (.int .i64)])) (.v 4 (.int .i64)) 2 (.int .i64))) (.and (.cmp .eql (.cell (.v 0 (.slc [(.int .i64), (.int .i64), (.int .i64), (.int .i64), (.int .i64), (.int .i64)])) (.v 4 (.int .i64)) 3 (.int .i64)) (.cell (.v 1 (.slc [(.int .i64), (.int .i64), (.int .i64), (.int .i64), (.int .i64), (.int .i64)])) (.v 4 (.int .i64)) 3 (.int .i64))) (.and (.cmp .eql (.cell (.v 0 (.slc [(.int .i64), (.int .i64), (.int .i64), (.int .i64), (.int .i64), (.int .i64)])) (.v 4 (.int .i64)) 4 (.int .i64)) (.cell (.v 1 (.slc [(.int .i64), (.int .i64), (.int .i64), (.int .i64), (.int .i64), (.int .i64)])) (.v 4 (.int .i64)) 4 (.int .i64))) (.and (.cmp .eql (.cell (.v 0 (.slc [(.int .i64), (.int .i64), (.int .i64), (.int .i64), (.int .i64), (.int .i64)])) (.v 4 (.int .i64)) 5 (.int .i64)) (.cell (.v 1 (.slc [(.int .i64), (.int .i64), (.int .i64), (.int .i64), (.int .i64), (.int .i64)])) (.v 4 (.int .i64)) 5 (.int .i64))) (.b true))))) (.b true)))))
   (.ret [(.b false)])
   (.jump 0 [(.v 0 (.slc [(.int .i64), (.int .i64), (.int .i64), (.int .i64), (.int .i64), (.int .i64)])), (.v 1 (.slc [(.int .i64), (.int .i64), (.int .i64), (.int .i64), (.int .i64), (.int .i64)])), (.v 2 .bool), (.v 3 (.int .i64)), (.ar .add .i64 (.v 4 (.int .i64)) (.n .i64 1))]))))
  (.ret [(.b true)]))
def B_slices_Equal_Threshold : Nat → T
  | 0 => t0_slices_Equal_Threshold
  | _ => .dead
theorem ok_slices_Equal_Threshold : c_slices_Equal_Threshold.Ok 58 B_slices_Equal_Threshold := ok_of Tryd.func58 (by kernel_rfl) mixed
  (.cons (n := 100000) (by kernel_rfl) (.nil))
theorem correct_slices_Equal_Threshold {ds rs : List D} (h : Ev (Corr Tryd.prog lay) B_slices_Equal_Threshold t_slices_Equal_Threshold ds rs) : Corr Tryd.prog lay 58 k_slices_Equal_Threshold ds r_slices_Equal_Threshold rs :=
  correct_of ok_slices_Equal_Threshold (n := 100000) (t := t_slices_Equal_Threshold) (by kernel_rfl) (by kernel_rfl) h
noncomputable def S_slices_Equal_Threshold : Nat → List D → List D
  | _, _ => []
def P_slices_Equal_Threshold : Nat → List K → List D → List K → Prop
  | _, _, _, _ => False
theorem use_slices_Equal_Threshold : ∀ g ks ds rk xs, ByS P_slices_Equal_Threshold S_slices_Equal_Threshold g ks ds rk xs → Corr Tryd.prog lay g ks ds rk xs := by
  intro g ks ds rk xs h
  obtain ⟨h1, rfl⟩ := h
  unfold P_slices_Equal_Threshold at h1
  split at h1
  · exact h1.elim
theorem spec_of_slices_Equal_Threshold (law : ∀ ds, D.wts (K.tyss k_slices_Equal_Threshold) ds → p_slices_Equal_Threshold ds → Ev (ByS P_slices_Equal_Threshold S_slices_Equal_Threshold) B_slices_Equal_Threshold t_slices_Equal_Threshold ds (s_slices_Equal_Threshold ds)) : ∀ ds, p_slices_Equal_Threshold ds → Corr Tryd.prog lay 58 k_slices_Equal_Threshold ds r_slices_Equal_Threshold (s_slices_Equal_Threshold ds) :=
  fun ds hp => .of_wt (by decide) fun hw => correct_slices_Equal_Threshold ((law ds hw hp).monoC use_slices_Equal_Threshold)
theorem loop_slices_Equal_Threshold (es fs : List (List D)) (hl : es.length = fs.length) (he : es.length ≤ maxLen) (hes : ∀ c ∈ es, D.wts [.int .i64, .int .i64, .int .i64, .int .i64, .int .i64, .int .i64] c) (hfs : ∀ c ∈ fs, D.wts [.int .i64, .int .i64, .int .i64, .int .i64, .int .i64, .int .i64] c) (st : D) : ∀ (m i : Nat), es.length - i = m → i ≤ es.length →
    Ev (ByS P_slices_Equal_Threshold S_slices_Equal_Threshold) B_slices_Equal_Threshold (B_slices_Equal_Threshold 0) [.slc es, .slc fs, st, .int .i64 es.length, .int .i64 i] [.bool (same (es.drop i) (fs.drop i))] := by
  intro m
  induction m with
  | zero =>
    intro i hm h1
    have hi : ¬ (i < es.length) := by omega
    rw [List.drop_eq_nil_iff.2 (by omega), List.drop_eq_nil_iff.2 (by omega), same_nil]
    show Ev _ _ t0_slices_Equal_Threshold _ _
    simp [t0_slices_Equal_Threshold, Ev.call_iff, Ev.ite_iff, Ev.guard_iff, Ev.ret_iff, Ev.jump_iff, E.dens, E.denss, E.den, cmpD, arD, scmpD, hi]
  | succ m ih =>
    intro i hm h1
    have hlt : i < es.length := by omega
    have hlt2 : i < fs.length := by omega
    have hw : IntKind.i64.wrap ((i : Int) + 1) = (i : Int) + 1 := by rw [wrap64 (by omega) (by unfold maxLen at *; omega)]
    have hnext := ih (i + 1) (by omega) (by omega)
    rw [Int.natCast_add, Int.natCast_one] at hnext
    rw [List.drop_eq_getElem_cons hlt, List.drop_eq_getElem_cons hlt2, same_cons]
    obtain ⟨x0_, _, ha, ⟨x0, rfl⟩, x1_, _, rfl, ⟨x1, rfl⟩, x2_, _, rfl, ⟨x2, rfl⟩, x3_, _, rfl, ⟨x3, rfl⟩, x4_, _, rfl, ⟨x4, rfl⟩, x5_, _, rfl, ⟨x5, rfl⟩, rfl⟩ := hes es[i] (List.getElem_mem hlt)
    obtain ⟨y0_, _, hb, ⟨y0, rfl⟩, y1_, _, rfl, ⟨y1, rfl⟩, y2_, _, rfl, ⟨y2, rfl⟩, y3_, _, rfl, ⟨y3, rfl⟩, y4_, _, rfl, ⟨y4, rfl⟩, y5_, _, rfl, ⟨y5, rfl⟩, rfl⟩ := hfs fs[i] (List.getElem_mem hlt2)
    have hrow : same es[i] fs[i] = decide (x0 = y0 ∧ x1 = y1 ∧ x2 = y2 ∧ x3 = y3 ∧ x4 = y4 ∧ x5 = y5) := by
      rw [ha, hb]
      simp only [same_cons, same_nil, same_str, same_int, Bool.and_true, Bool.decide_and]
    show Ev _ _ t0_slices_Equal_Threshold _ _
    by_cases hc : x0 = y0 ∧ x1 = y1 ∧ x2 = y2 ∧ x3 = y3 ∧ x4 = y4 ∧ x5 = y5
    · rw [hrow, decide_eq_true hc, Bool.true_and]
      simp [t0_slices_Equal_Threshold, Ev.call_iff, Ev.ite_iff, Ev.guard_iff, Ev.ret_iff, Ev.jump_iff, E.dens, E.denss, E.den, cmpD, arD, scmpD, ByteArray.toList_eq, hlt, hlt2, hw, ha, hb, hc]
      exact hnext
    · rw [hrow, decide_eq_false hc, Bool.false_and]
      simp [t0_slices_Equal_Threshold, Ev.call_iff, Ev.ite_iff, Ev.guard_iff, Ev.ret_iff, Ev.jump_iff, E.dens, E.denss, E.den, cmpD, arD, scmpD, ByteArray.toList_eq, hlt, hlt2, hw, ha, hb]
      try (repeat' split) 
      all_goals first | rfl | (intros; simp_all)
theorem law_slices_Equal_Threshold (ds : List D) (hw : D.wts (K.tyss k_slices_Equal_Threshold) ds) (hp : p_slices_Equal_Threshold ds) : Ev (ByS P_slices_Equal_Threshold S_slices_Equal_Threshold) B_slices_Equal_Threshold t_slices_Equal_Threshold ds (s_slices_Equal_Threshold ds) := by
  obtain ⟨a0, _, rfl, ha0, a1, _, rfl, ha1, rfl⟩ := hw
  obtain ⟨es, rfl, he, hes⟩ := ha0
  obtain ⟨fs, rfl, hf, hfs⟩ := ha1
  have hd : same (D.slc es) (D.slc fs) = same es fs := same_slc es fs
  by_cases hl : es.length = fs.length
  · have loop := loop_slices_Equal_Threshold es fs hl he hes hfs (.bool false) _ 0 rfl (Nat.zero_le _)
    rw [List.drop_zero, List.drop_zero] at loop
    simp [t_slices_Equal_Threshold, s_slices_Equal_Threshold, Ev.ite_iff, Ev.ret_iff, Ev.jump_iff, E.dens, E.den, cmpD, hl, hd]
    rw [hl] at loop
    exact loop
  · have hl' : ¬ ((es.length : Int) = fs.length) := by omega
    have hne : same es fs = false := same_ne (fun h => hl (by rw [h]))
    simp [t_slices_Equal_Threshold, s_slices_Equal_Threshold, Ev.ite_iff, Ev.ret_iff, Ev.jump_iff, E.dens, E.den, cmpD, hl, hl', hd, hne]

theorem spec_slices_Equal_Threshold : ∀ ds, p_slices_Equal_Threshold ds → Corr Tryd.prog lay 58 k_slices_Equal_Threshold ds r_slices_Equal_Threshold (s_slices_Equal_Threshold ds) := spec_of_slices_Equal_Threshold law_slices_Equal_Threshold
/- familycheck/protocol.sameRule -/
def k_protocol_sameRule : List K := [(.agg [.str, (.int .i64), (.int .i64), (.int .i64), (.int .i64), (.int .i64), (.slc [(.int .i64)]), (.slc [(.int .i64), (.int .i64), (.int .i64), (.int .i64), (.int .i64), (.int .i64)]), (.slc [(.int .i64)]), (.slc [(.int .i64)]), (.int .i64), (.int .i64), (.slc [(.int .i64)]), (.int .i64), (.slc [(.int .i64)]), (.slc [(.int .i64)]), (.slc [(.int .i64)]), (.int .i64)]), (.agg [.str, (.int .i64), (.int .i64), (.int .i64), (.int .i64), (.int .i64), (.slc [(.int .i64)]), (.slc [(.int .i64), (.int .i64), (.int .i64), (.int .i64), (.int .i64), (.int .i64)]), (.slc [(.int .i64)]), (.slc [(.int .i64)]), (.int .i64), (.int .i64), (.slc [(.int .i64)]), (.int .i64), (.slc [(.int .i64)]), (.slc [(.int .i64)]), (.slc [(.int .i64)]), (.int .i64)])]
def r_protocol_sameRule : List K := [(.one .bool)]
def b_protocol_sameRule : List Blk := []
noncomputable def c_protocol_sameRule : Ctx := mkCtx Tryd.prog lay Tryd.f51 ⟨[(26, [(.one .bool)]), (58, [(.one .bool)])], [], []⟩ k_protocol_sameRule r_protocol_sameRule [] b_protocol_sameRule
def t_protocol_sameRule : T :=
 (.ite (.cmp .eql (.v 1 (.int .i64)) (.v 19 (.int .i64)))
  (.ite (.cmp .eql (.v 2 (.int .i64)) (.v 20 (.int .i64)))
   (.ite (.cmp .eql (.v 3 (.int .i64)) (.v 21 (.int .i64)))
    (.ite (.cmp .eql (.v 4 (.int .i64)) (.v 22 (.int .i64)))
     (.ite (.cmp .eql (.v 5 (.int .i64)) (.v 23 (.int .i64)))
      (.ite (.cmp .eql (.v 10 (.int .i64)) (.v 28 (.int .i64)))
       (.ite (.cmp .eql (.v 11 (.int .i64)) (.v 29 (.int .i64)))
        (.ite (.cmp .eql (.v 13 (.int .i64)) (.v 31 (.int .i64)))
         (.ite (.cmp .eql (.v 17 (.int .i64)) (.v 35 (.int .i64)))
          (.call 26 [(.one (.slc [(.int .i64)])), (.one (.slc [(.int .i64)]))] [(.v 6 (.slc [(.int .i64)])), (.v 24 (.slc [(.int .i64)]))] [(.one .bool)]
          (.ite (.v 36 .bool)
           (.call 58 [(.one (.slc [(.int .i64), (.int .i64), (.int .i64), (.int .i64), (.int .i64), (.int .i64)])), (.one (.slc [(.int .i64), (.int .i64), (.int .i64), (.int .i64), (.int .i64), (.int .i64)]))] [(.v 7 (.slc [(.int .i64), (.int .i64), (.int .i64), (.int .i64), (.int .i64), (.int .i64)])), (.v 25 (.slc [(.int .i64), (.int .i64), (.int .i64), (.int .i64), (.int .i64), (.int .i64)]))] [(.one .bool)]
           (.ite (.v 37 .bool)
            (.call 26 [(.one (.slc [(.int .i64)])), (.one (.slc [(.int .i64)]))] [(.v 8 (.slc [(.int .i64)])), (.v 26 (.slc [(.int .i64)]))] [(.one .bool)]
            (.ite (.v 38 .bool)
             (.call 26 [(.one (.slc [(.int .i64)])), (.one (.slc [(.int .i64)]))] [(.v 9 (.slc [(.int .i64)])), (.v 27 (.slc [(.int .i64)]))] [(.one .bool)]
             (.ite (.v 39 .bool)
              (.call 26 [(.one (.slc [(.int .i64)])), (.one (.slc [(.int .i64)]))] [(.v 12 (.slc [(.int .i64)])), (.v 30 (.slc [(.int .i64)]))] [(.one .bool)]
              (.ite (.v 40 .bool)
               (.call 26 [(.one (.slc [(.int .i64)])), (.one (.slc [(.int .i64)]))] [(.v 14 (.slc [(.int .i64)])), (.v 32 (.slc [(.int .i64)]))] [(.one .bool)]
               (.ite (.v 41 .bool)
                (.call 26 [(.one (.slc [(.int .i64)])), (.one (.slc [(.int .i64)]))] [(.v 15 (.slc [(.int .i64)])), (.v 33 (.slc [(.int .i64)]))] [(.one .bool)]
                (.ite (.v 42 .bool)
                 (.call 26 [(.one (.slc [(.int .i64)])), (.one (.slc [(.int .i64)]))] [(.v 16 (.slc [(.int .i64)])), (.v 34 (.slc [(.int .i64)]))] [(.one .bool)]
                 (.ret [(.v 43 .bool)]))
                 (.ret [(.b false)])))
                (.ret [(.b false)])))
               (.ret [(.b false)])))
              (.ret [(.b false)])))
             (.ret [(.b false)])))
            (.ret [(.b false)])))
           (.ret [(.b false)])))
          (.ret [(.b false)]))
         (.ret [(.b false)]))
        (.ret [(.b false)]))
       (.ret [(.b false)]))
      (.ret [(.b false)]))
     (.ret [(.b false)]))
    (.ret [(.b false)]))
   (.ret [(.b false)]))
  (.ret [(.b false)]))
def B_protocol_sameRule : Nat → T
  | _ => .dead
theorem ok_protocol_sameRule : c_protocol_sameRule.Ok 51 B_protocol_sameRule := ok_of Tryd.func51 (by kernel_rfl) mixed
  (.nil)
theorem correct_protocol_sameRule {ds rs : List D} (h : Ev (Corr Tryd.prog lay) B_protocol_sameRule t_protocol_sameRule ds rs) : Corr Tryd.prog lay 51 k_protocol_sameRule ds r_protocol_sameRule rs :=
  correct_of ok_protocol_sameRule (n := 100000) (t := t_protocol_sameRule) (by kernel_rfl) (by kernel_rfl) h
noncomputable def S_protocol_sameRule : Nat → List D → List D
  | 26, ds => s_slices_Equal_int ds
  | 58, ds => s_slices_Equal_Threshold ds
  | _, _ => []
def P_protocol_sameRule : Nat → List K → List D → List K → Prop
  | 26, ks, ds, rk => ks = k_slices_Equal_int ∧ rk = r_slices_Equal_int ∧ p_slices_Equal_int ds
  | 58, ks, ds, rk => ks = k_slices_Equal_Threshold ∧ rk = r_slices_Equal_Threshold ∧ p_slices_Equal_Threshold ds
  | _, _, _, _ => False
theorem use_protocol_sameRule : ∀ g ks ds rk xs, ByS P_protocol_sameRule S_protocol_sameRule g ks ds rk xs → Corr Tryd.prog lay g ks ds rk xs := by
  intro g ks ds rk xs h
  obtain ⟨h1, rfl⟩ := h
  unfold P_protocol_sameRule at h1
  split at h1
  · obtain ⟨rfl, rfl, h1⟩ := h1; exact spec_slices_Equal_int ds h1
  · obtain ⟨rfl, rfl, h1⟩ := h1; exact spec_slices_Equal_Threshold ds h1
  · exact h1.elim
theorem spec_of_protocol_sameRule (law : ∀ ds, D.wts (K.tyss k_protocol_sameRule) ds → p_protocol_sameRule ds → Ev (ByS P_protocol_sameRule S_protocol_sameRule) B_protocol_sameRule t_protocol_sameRule ds (s_protocol_sameRule ds)) : ∀ ds, p_protocol_sameRule ds → Corr Tryd.prog lay 51 k_protocol_sameRule ds r_protocol_sameRule (s_protocol_sameRule ds) :=
  fun ds hp => .of_wt (by decide) fun hw => correct_protocol_sameRule ((law ds hw hp).monoC use_protocol_sameRule)
theorem law_protocol_sameRule (ds : List D) (hw : D.wts (K.tyss k_protocol_sameRule) ds) (hp : p_protocol_sameRule ds) : Ev (ByS P_protocol_sameRule S_protocol_sameRule) B_protocol_sameRule t_protocol_sameRule ds (s_protocol_sameRule ds) := by
  obtain ⟨a0_, _, rfl, ⟨x0, rfl⟩, a1_, _, rfl, ⟨x1, rfl⟩, a2_, _, rfl, ⟨x2, rfl⟩, a3_, _, rfl, ⟨x3, rfl⟩, a4_, _, rfl, ⟨x4, rfl⟩, a5_, _, rfl, ⟨x5, rfl⟩, a6_, _, rfl, wa6, a7_, _, rfl, wa7, a8_, _, rfl, wa8, a9_, _, rfl, wa9, a10_, _, rfl, ⟨x10, rfl⟩, a11_, _, rfl, ⟨x11, rfl⟩, a12_, _, rfl, wa12, a13_, _, rfl, ⟨x13, rfl⟩, a14_, _, rfl, wa14, a15_, _, rfl, wa15, a16_, _, rfl, wa16, a17_, _, rfl, ⟨x17, rfl⟩, b0_, _, rfl, ⟨y0, rfl⟩, b1_, _, rfl, ⟨y1, rfl⟩, b2_, _, rfl, ⟨y2, rfl⟩, b3_, _, rfl, ⟨y3, rfl⟩, b4_, _, rfl, ⟨y4, rfl⟩, b5_, _, rfl, ⟨y5, rfl⟩, b6_, _, rfl, wb6, b7_, _, rfl, wb7, b8_, _, rfl, wb8, b9_, _, rfl, wb9, b10_, _, rfl, ⟨y10, rfl⟩, b11_, _, rfl, ⟨y11, rfl⟩, b12_, _, rfl, wb12, b13_, _, rfl, ⟨y13, rfl⟩, b14_, _, rfl, wb14, b15_, _, rfl, wb15, b16_, _, rfl, wb16, b17_, _, rfl, ⟨y17, rfl⟩, rfl⟩ := hw
  have hs : s_protocol_sameRule [D.str x0, D.int .i64 x1, D.int .i64 x2, D.int .i64 x3, D.int .i64 x4, D.int .i64 x5, a6_, a7_, a8_, a9_, D.int .i64 x10, D.int .i64 x11, a12_, D.int .i64 x13, a14_, a15_, a16_, D.int .i64 x17, D.str y0, D.int .i64 y1, D.int .i64 y2, D.int .i64 y3, D.int .i64 y4, D.int .i64 y5, b6_, b7_, b8_, b9_, D.int .i64 y10, D.int .i64 y11, b12_, D.int .i64 y13, b14_, b15_, b16_, D.int .i64 y17] = [.bool (same [D.int .i64 x1, D.int .i64 x2, D.int .i64 x3, D.int .i64 x4, D.int .i64 x5, a6_, a7_, a8_, a9_, D.int .i64 x10, D.int .i64 x11, a12_, D.int .i64 x13, a14_, a15_, a16_, D.int .i64 x17] [D.int .i64 y1, D.int .i64 y2, D.int .i64 y3, D.int .i64 y4, D.int .i64 y5, b6_, b7_, b8_, b9_, D.int .i64 y10, D.int .i64 y11, b12_, D.int .i64 y13, b14_, b15_, b16_, D.int .i64 y17])] := rfl
  rw [hs]
  simp only [same_cons, same_nil, same_int, Bool.and_true]
  simp [t_protocol_sameRule, P_protocol_sameRule, S_protocol_sameRule, k_slices_Equal_int, r_slices_Equal_int, s_slices_Equal_int, p_slices_Equal_int, k_slices_Equal_Threshold, r_slices_Equal_Threshold, s_slices_Equal_Threshold, p_slices_Equal_Threshold, K.rts, K.otyss, K.otys, CK.tyss, CK.tys, K.tyss, K.tys, Ev.call_iff, Ev.ite_iff, Ev.guard_iff, Ev.ret_iff, Ev.jump_iff, E.dens, E.denss, E.den, cmpD, arD, scmpD, ByteArray.toList_eq]
  repeat' split
  all_goals simp_all

theorem spec_protocol_sameRule : ∀ ds, p_protocol_sameRule ds → Corr Tryd.prog lay 51 k_protocol_sameRule ds r_protocol_sameRule (s_protocol_sameRule ds) := spec_of_protocol_sameRule law_protocol_sameRule
/- familycheck/protocol.equalRule -/
def k_protocol_equalRule : List K := [(.agg [.str, (.int .i64), (.int .i64), (.int .i64), (.int .i64), (.int .i64), (.slc [(.int .i64)]), (.slc [(.int .i64), (.int .i64), (.int .i64), (.int .i64), (.int .i64), (.int .i64)]), (.slc [(.int .i64)]), (.slc [(.int .i64)]), (.int .i64), (.int .i64), (.slc [(.int .i64)]), (.int .i64), (.slc [(.int .i64)]), (.slc [(.int .i64)]), (.slc [(.int .i64)]), (.int .i64)]), (.agg [.str, (.int .i64), (.int .i64), (.int .i64), (.int .i64), (.int .i64), (.slc [(.int .i64)]), (.slc [(.int .i64), (.int .i64), (.int .i64), (.int .i64), (.int .i64), (.int .i64)]), (.slc [(.int .i64)]), (.slc [(.int .i64)]), (.int .i64), (.int .i64), (.slc [(.int .i64)]), (.int .i64), (.slc [(.int .i64)]), (.slc [(.int .i64)]), (.slc [(.int .i64)]), (.int .i64)])]
def r_protocol_equalRule : List K := [(.one .bool)]
def b_protocol_equalRule : List Blk := []
noncomputable def c_protocol_equalRule : Ctx := mkCtx Tryd.prog lay Tryd.f36 ⟨[(51, [(.one .bool)])], [], []⟩ k_protocol_equalRule r_protocol_equalRule [] b_protocol_equalRule
def t_protocol_equalRule : T :=
 (.ite (.scmp .eql (.v 0 .str) (.v 18 .str))
  (.call 51 [(.agg [.str, (.int .i64), (.int .i64), (.int .i64), (.int .i64), (.int .i64), (.slc [(.int .i64)]), (.slc [(.int .i64), (.int .i64), (.int .i64), (.int .i64), (.int .i64), (.int .i64)]), (.slc [(.int .i64)]), (.slc [(.int .i64)]), (.int .i64), (.int .i64), (.slc [(.int .i64)]), (.int .i64), (.slc [(.int .i64)]), (.slc [(.int .i64)]), (.slc [(.int .i64)]), (.int .i64)]), (.agg [.str, (.int .i64), (.int .i64), (.int .i64), (.int .i64), (.int .i64), (.slc [(.int .i64)]), (.slc [(.int .i64), (.int .i64), (.int .i64), (.int .i64), (.int .i64), (.int .i64)]), (.slc [(.int .i64)]), (.slc [(.int .i64)]), (.int .i64), (.int .i64), (.slc [(.int .i64)]), (.int .i64), (.slc [(.int .i64)]), (.slc [(.int .i64)]), (.slc [(.int .i64)]), (.int .i64)])] [(.v 0 .str), (.v 1 (.int .i64)), (.v 2 (.int .i64)), (.v 3 (.int .i64)), (.v 4 (.int .i64)), (.v 5 (.int .i64)), (.v 6 (.slc [(.int .i64)])), (.v 7 (.slc [(.int .i64), (.int .i64), (.int .i64), (.int .i64), (.int .i64), (.int .i64)])), (.v 8 (.slc [(.int .i64)])), (.v 9 (.slc [(.int .i64)])), (.v 10 (.int .i64)), (.v 11 (.int .i64)), (.v 12 (.slc [(.int .i64)])), (.v 13 (.int .i64)), (.v 14 (.slc [(.int .i64)])), (.v 15 (.slc [(.int .i64)])), (.v 16 (.slc [(.int .i64)])), (.v 17 (.int .i64)), (.v 18 .str), (.v 19 (.int .i64)), (.v 20 (.int .i64)), (.v 21 (.int .i64)), (.v 22 (.int .i64)), (.v 23 (.int .i64)), (.v 24 (.slc [(.int .i64)])), (.v 25 (.slc [(.int .i64), (.int .i64), (.int .i64), (.int .i64), (.int .i64), (.int .i64)])), (.v 26 (.slc [(.int .i64)])), (.v 27 (.slc [(.int .i64)])), (.v 28 (.int .i64)), (.v 29 (.int .i64)), (.v 30 (.slc [(.int .i64)])), (.v 31 (.int .i64)), (.v 32 (.slc [(.int .i64)])), (.v 33 (.slc [(.int .i64)])), (.v 34 (.slc [(.int .i64)])), (.v 35 (.int .i64))] [(.one .bool)]
  (.ret [(.v 36 .bool)]))
  (.ret [(.b false)]))
def B_protocol_equalRule : Nat → T
  | _ => .dead
theorem ok_protocol_equalRule : c_protocol_equalRule.Ok 36 B_protocol_equalRule := ok_of Tryd.func36 (by kernel_rfl) mixed
  (.nil)
theorem correct_protocol_equalRule {ds rs : List D} (h : Ev (Corr Tryd.prog lay) B_protocol_equalRule t_protocol_equalRule ds rs) : Corr Tryd.prog lay 36 k_protocol_equalRule ds r_protocol_equalRule rs :=
  correct_of ok_protocol_equalRule (n := 100000) (t := t_protocol_equalRule) (by kernel_rfl) (by kernel_rfl) h
noncomputable def S_protocol_equalRule : Nat → List D → List D
  | 51, ds => s_protocol_sameRule ds
  | _, _ => []
def P_protocol_equalRule : Nat → List K → List D → List K → Prop
  | 51, ks, ds, rk => ks = k_protocol_sameRule ∧ rk = r_protocol_sameRule ∧ p_protocol_sameRule ds
  | _, _, _, _ => False
theorem use_protocol_equalRule : ∀ g ks ds rk xs, ByS P_protocol_equalRule S_protocol_equalRule g ks ds rk xs → Corr Tryd.prog lay g ks ds rk xs := by
  intro g ks ds rk xs h
  obtain ⟨h1, rfl⟩ := h
  unfold P_protocol_equalRule at h1
  split at h1
  · obtain ⟨rfl, rfl, h1⟩ := h1; exact spec_protocol_sameRule ds h1
  · exact h1.elim
theorem spec_of_protocol_equalRule (law : ∀ ds, D.wts (K.tyss k_protocol_equalRule) ds → p_protocol_equalRule ds → Ev (ByS P_protocol_equalRule S_protocol_equalRule) B_protocol_equalRule t_protocol_equalRule ds (s_protocol_equalRule ds)) : ∀ ds, p_protocol_equalRule ds → Corr Tryd.prog lay 36 k_protocol_equalRule ds r_protocol_equalRule (s_protocol_equalRule ds) :=
  fun ds hp => .of_wt (by decide) fun hw => correct_protocol_equalRule ((law ds hw hp).monoC use_protocol_equalRule)
theorem law_protocol_equalRule (ds : List D) (hw : D.wts (K.tyss k_protocol_equalRule) ds) (hp : p_protocol_equalRule ds) : Ev (ByS P_protocol_equalRule S_protocol_equalRule) B_protocol_equalRule t_protocol_equalRule ds (s_protocol_equalRule ds) := by
  obtain ⟨a0_, _, rfl, ⟨x0, rfl⟩, a1_, _, rfl, ⟨x1, rfl⟩, a2_, _, rfl, ⟨x2, rfl⟩, a3_, _, rfl, ⟨x3, rfl⟩, a4_, _, rfl, ⟨x4, rfl⟩, a5_, _, rfl, ⟨x5, rfl⟩, a6_, _, rfl, wa6, a7_, _, rfl, wa7, a8_, _, rfl, wa8, a9_, _, rfl, wa9, a10_, _, rfl, ⟨x10, rfl⟩, a11_, _, rfl, ⟨x11, rfl⟩, a12_, _, rfl, wa12, a13_, _, rfl, ⟨x13, rfl⟩, a14_, _, rfl, wa14, a15_, _, rfl, wa15, a16_, _, rfl, wa16, a17_, _, rfl, ⟨x17, rfl⟩, b0_, _, rfl, ⟨y0, rfl⟩, b1_, _, rfl, ⟨y1, rfl⟩, b2_, _, rfl, ⟨y2, rfl⟩, b3_, _, rfl, ⟨y3, rfl⟩, b4_, _, rfl, ⟨y4, rfl⟩, b5_, _, rfl, ⟨y5, rfl⟩, b6_, _, rfl, wb6, b7_, _, rfl, wb7, b8_, _, rfl, wb8, b9_, _, rfl, wb9, b10_, _, rfl, ⟨y10, rfl⟩, b11_, _, rfl, ⟨y11, rfl⟩, b12_, _, rfl, wb12, b13_, _, rfl, ⟨y13, rfl⟩, b14_, _, rfl, wb14, b15_, _, rfl, wb15, b16_, _, rfl, wb16, b17_, _, rfl, ⟨y17, rfl⟩, rfl⟩ := hw
  have hs : s_protocol_equalRule [D.str x0, D.int .i64 x1, D.int .i64 x2, D.int .i64 x3, D.int .i64 x4, D.int .i64 x5, a6_, a7_, a8_, a9_, D.int .i64 x10, D.int .i64 x11, a12_, D.int .i64 x13, a14_, a15_, a16_, D.int .i64 x17, D.str y0, D.int .i64 y1, D.int .i64 y2, D.int .i64 y3, D.int .i64 y4, D.int .i64 y5, b6_, b7_, b8_, b9_, D.int .i64 y10, D.int .i64 y11, b12_, D.int .i64 y13, b14_, b15_, b16_, D.int .i64 y17] = [.bool (same (D.str x0) (D.str y0) && same [D.int .i64 x1, D.int .i64 x2, D.int .i64 x3, D.int .i64 x4, D.int .i64 x5, a6_, a7_, a8_, a9_, D.int .i64 x10, D.int .i64 x11, a12_, D.int .i64 x13, a14_, a15_, a16_, D.int .i64 x17] [D.int .i64 y1, D.int .i64 y2, D.int .i64 y3, D.int .i64 y4, D.int .i64 y5, b6_, b7_, b8_, b9_, D.int .i64 y10, D.int .i64 y11, b12_, D.int .i64 y13, b14_, b15_, b16_, D.int .i64 y17])] := by
    show [D.bool (same [D.str x0, D.int .i64 x1, D.int .i64 x2, D.int .i64 x3, D.int .i64 x4, D.int .i64 x5, a6_, a7_, a8_, a9_, D.int .i64 x10, D.int .i64 x11, a12_, D.int .i64 x13, a14_, a15_, a16_, D.int .i64 x17] [D.str y0, D.int .i64 y1, D.int .i64 y2, D.int .i64 y3, D.int .i64 y4, D.int .i64 y5, b6_, b7_, b8_, b9_, D.int .i64 y10, D.int .i64 y11, b12_, D.int .i64 y13, b14_, b15_, b16_, D.int .i64 y17])] = _
    rw [same_cons]
  have hr : s_protocol_sameRule [D.str x0, D.int .i64 x1, D.int .i64 x2, D.int .i64 x3, D.int .i64 x4, D.int .i64 x5, a6_, a7_, a8_, a9_, D.int .i64 x10, D.int .i64 x11, a12_, D.int .i64 x13, a14_, a15_, a16_, D.int .i64 x17, D.str y0, D.int .i64 y1, D.int .i64 y2, D.int .i64 y3, D.int .i64 y4, D.int .i64 y5, b6_, b7_, b8_, b9_, D.int .i64 y10, D.int .i64 y11, b12_, D.int .i64 y13, b14_, b15_, b16_, D.int .i64 y17] = [.bool (same [D.int .i64 x1, D.int .i64 x2, D.int .i64 x3, D.int .i64 x4, D.int .i64 x5, a6_, a7_, a8_, a9_, D.int .i64 x10, D.int .i64 x11, a12_, D.int .i64 x13, a14_, a15_, a16_, D.int .i64 x17] [D.int .i64 y1, D.int .i64 y2, D.int .i64 y3, D.int .i64 y4, D.int .i64 y5, b6_, b7_, b8_, b9_, D.int .i64 y10, D.int .i64 y11, b12_, D.int .i64 y13, b14_, b15_, b16_, D.int .i64 y17])] := rfl
  rw [hs, same_str]
  simp [t_protocol_equalRule, P_protocol_equalRule, S_protocol_equalRule, k_protocol_sameRule, r_protocol_sameRule, p_protocol_sameRule, K.rts, K.otyss, K.otys, CK.tyss, CK.tys, K.tyss, K.tys, Ev.call_iff, Ev.ite_iff, Ev.guard_iff, Ev.ret_iff, Ev.jump_iff, E.dens, E.denss, E.den, cmpD, arD, scmpD, ByteArray.toList_eq, hr]
  repeat' split
  all_goals simp_all

theorem spec_protocol_equalRule : ∀ ds, p_protocol_equalRule ds → Corr Tryd.prog lay 36 k_protocol_equalRule ds r_protocol_equalRule (s_protocol_equalRule ds) := spec_of_protocol_equalRule law_protocol_equalRule
/- slices.EqualFunc[[]familycheck/api.Rule,[]familycheck/api.Rule,familycheck/api.Rule,familycheck/api.Rule] -/
def k_slices_EqualFunc_Rule : List K := [(.one (.slc [.str, (.int .i64), (.int .i64), (.int .i64), (.int .i64), (.int .i64), (.slc [(.int .i64)]), (.slc [(.int .i64), (.int .i64), (.int .i64), (.int .i64), (.int .i64), (.int .i64)]), (.slc [(.int .i64)]), (.slc [(.int .i64)]), (.int .i64), (.int .i64), (.slc [(.int .i64)]), (.int .i64), (.slc [(.int .i64)]), (.slc [(.int .i64)]), (.slc [(.int .i64)]), (.int .i64)])), (.one (.slc [.str, (.int .i64), (.int .i64), (.int .i64), (.int .i64), (.int .i64), (.slc [(.int .i64)]), (.slc [(.int .i64), (.int .i64), (.int .i64), (.int .i64), (.int .i64), (.int .i64)]), (.slc [(.int .i64)]), (.slc [(.int .i64)]), (.int .i64), (.int .i64), (.slc [(.int .i64)]), (.int .i64), (.slc [(.int .i64)]), (.slc [(.int .i64)]), (.slc [(.int .i64)]), (.int .i64)])), (.clo 36 [])]
def r_slices_EqualFunc_Rule : List K := [(.one .bool)]
def b_slices_EqualFunc_Rule : List Blk := [{ st := [.code [0, 0, 0, 1, 0, 1, 1], .code [1, 0, 0, 1, 0, 1, 1], .inLoop [0, 1, 0, 1, 1], .inBlock 0, .code [1, 1, 1]], σ := { t := [(1, (.sc (.v 0 (.slc [.str, (.int .i64), (.int .i64), (.int .i64), (.int .i64), (.int .i64), (.slc [(.int .i64)]), (.slc [(.int .i64), (.int .i64), (.int .i64), (.int .i64), (.int .i64), (.int .i64)]), (.slc [(.int .i64)]), (.slc [(.int .i64)]), (.int .i64), (.int .i64), (.slc [(.int .i64)]), (.int .i64), (.slc [(.int .i64)]), (.slc [(.int .i64)]), (.slc [(.int .i64)]), (.int .i64)])))), (2, (.fn 36 [])), (6, (.sc (.v 1 .bool))), (15, (.sc (.v 2 (.slc [.str, (.int .i64), (.int .i64), (.int .i64), (.int .i64), (.int .i64), (.slc [(.int .i64)]), (.slc [(.int .i64), (.int .i64), (.int .i64), (.int .i64), (.int .i64), (.int .i64)]), (.slc [(.int .i64)]), (.slc [(.int .i64)]), (.int .i64), (.int .i64), (.slc [(.int .i64)]), (.int .i64), (.slc [(.int .i64)]), (.slc [(.int .i64)]), (.slc [(.int .i64)]), (.int .i64)])))), (16, (.sc (.v 3 (.int .i64)))), (17, (.sc (.v 4 (.int .i64))))], o := [] }, tys := [(.slc [.str, (.int .i64), (.int .i64), (.int .i64), (.int .i64), (.int .i64), (.slc [(.int .i64)]), (.slc [(.int .i64), (.int .i64), (.int .i64), (.int .i64), (.int .i64), (.int .i64)]), (.slc [(.int .i64)]), (.slc [(.int .i64)]), (.int .i64), (.int .i64), (.slc [(.int .i64)]), (.int .i64), (.slc [(.int .i64)]), (.slc [(.int .i64)]), (.slc [(.int .i64)]), (.int .i64)]), .bool, (.slc [.str, (.int .i64), (.int .i64), (.int .i64), (.int .i64), (.int .i64), (.slc [(.int .i64)]), (.slc [(.int .i64), (.int .i64), (.int .i64), (.int .i64), (.int .i64), (.int .i64)]), (.slc [(.int .i64)]), (.slc [(.int .i64)]), (.int .i64), (.int .i64), (.slc [(.int .i64)]), (.int .i64), (.slc [(.int .i64)]), (.slc [(.int .i64)]), (.slc [(.int .i64)]), (.int .i64)]), (.int .i64), (.int .i64)] }]
noncomputable def c_slices_EqualFunc_Rule : Ctx := mkCtx Tryd.prog lay Tryd.f35 ⟨[(36, [(.one .bool)])], [], []⟩ k_slices_EqualFunc_Rule r_slices_EqualFunc_Rule [(4, 0)] b_slices_EqualFunc_Rule
def t_slices_EqualFunc_Rule : T :=
 (.ite (.cmp .neq (.len (.v 0 (.slc [.str, (.int .i64), (.int .i64), (.int .i64), (.int .i64), (.int .i64), (.slc [(.int .i64)]), (.slc [(.int .i64), (.int .i64), (.int .i64), (.int .i64), (.int .i64), (.int .i64)]), (.slc [(.int .i64)]), (.slc [(.int .i64)]), (.int .i64), (.int .i64), (.slc [(.int .i64)]), (.int .i64), (.slc [(.int .i64)]), (.slc [(.int .i64)]), (.slc [(.int .i64)]), (.int .i64)]))) (.len (.v 1 (.slc [.str, (.int .i64), (.int .i64), (.int .i64), (.int .i64), (.int .i64), (.slc [(.int .i64)]), (.slc [(.int .i64), (.int .i64), (.int .i64), (.int .i64), (.int .i64), (.int .i64)]), (.slc [(.int .i64)]), (.slc [(.int .i64)]), (.int .i64), (.int .i64), (.slc [(.int .i64)]), (.int .i64), (.slc [(.int .i64)]), (.slc [(.int .i64)]), (.slc [(.int .i64)]), (.int .i64)]))))
  (.ret [(.b false)])
  (.jump 0 [(.v 1 (.slc [.str, (.int .i64), (.int .i64), (.int .i64), (.int .i64), (.int .i64), (.slc [(.int .i64)]), (.slc [(.int .i64), (.int .i64), (.int .i64), (.int .i64), (.int .i64), (.int .i64)]), (.slc [(.int .i64)]), (.slc [(.int .i64)]), (.int .i64), (.int .i64), (.slc [(.int .i64)]), (.int .i64), (.slc [(.int .i64)]), (.slc [(.int .i64)]), (.slc [(.int .i64)]), (.int .i64)])), (.b false), (.v 0 (.slc [.str, (.int .i64), (.int .i64), (.int .i64), (.int .i64), (.int .i64), (.slc [(.int .i64)]), (.slc [(.int .i64), (.int .i64), (.int .i64), (.int .i64), (.int .i64), (.int .i64)]), (.slc [(.int .i64)]), (.slc [(.int .i64)]), (.int .i64), (.int .i64), (.slc [(.int .i64)]), (.int .i64), (.slc [(.int .i64)]), (.slc [(.int .i64)]), (.slc [(.int .i64)]), (.int .i64)])), (.len (.v 0 (.slc [.str, (.int .i64), (.int .i64), (.int .i64), (.int .i64), (.int .i64), (.slc [(.int .i64)]), (.slc [(.int .i64), (.int .i64), (.int .i64), (.int .i64), (.int .i64), (.int .i64)]), (.slc [(.int .i64)]), (.slc [(.int .i64)]), (.int .i64), (.int .i64), (.slc [(.int .i64)]), (.int .i64), (.slc [(.int .i64)]), (.slc [(.int .i64)]), (.slc [(.int .i64)]), (.int .i64)]))), (.n .i64 0)]))
def t0_slices_EqualFunc_Rule : T :=
 (.ite (.cmp .lss (.v 4 (.int .i64)) (.v 3 (.int .i64)))
  (.guard (.and (.cmp .geq (.v 4 (.int .i64)) (.n .i64 0)) (.cmp .lss (.v 4 (.int .i64)) (.len (.v 2 (.slc [.str, (.int .i64), (.int .i64), (.int .i64), (.int .i64), (.int .i64), (.slc [(.int .i64)]), (.slc [(.int .i64), (.int .i64), (.int .i64), (.int .i64), (.int .i64), (.int .i64)]), (.slc [(.int .i64)]), (.slc [(.int .i64)]), (.int .i64), (.int .i64), (.slc [(.int .i64)]), (.int .i64), (.slc [(.int .i64)]), (.slc [(.int .i64)]), (.slc [(.int .i64)]), (.int .i64)])))))
  (.guard (.and (.cmp .geq (.v 4 (.int .i64)) (.n .i64 0)) (.cmp .lss (.v 4 (.int .i64)) (.len (.v 0 (.slc [.str, (.int .i64), (.int .i64), (.int .i64), (.int .i64), (.int .i64), (.slc [(.int .i64)]), (.slc [(.int .i64), (.int .i64), (.int .i64), (.int .i64), (.int .i64), (.int .i64)]), (.slc [(.int .i64)]), (.slc [(.int .i64)]), (.int .i64), (.int .i64), (.slc [(.int .i64)]), (.int .i64), (.slc [(.int .i64)]), (.slc [(.int .i64)]), (.slc [(.int .i64)]), (.int .i64)])))))
  (.call 36 [(.agg [.str, (.int .i64), (.int .i64), (.int .i64), (.int .i64), (.int .i64), (.slc [(.int .i64)]), (.slc [(.int .i64), (.int .i64), (.int .i64), (.int .i64), (.int .i64), (.int .i64)]), (.slc [(.int .i64)]), (.slc [(.int .i64)]), (.int .i64), (.int .i64), (.slc [(.int .i64)]), (.int .i64), (.slc [(.int .i64)]), (.slc [(.int .i64)]), (.slc [(.int .i64)]), (.int .i64)]), (.agg [.str, (.int .i64), (.int .i64), (.int .i64), (.int .i64), (.int .i64), (.slc [(.int .i64)]), (.slc [(.int .i64), (.int .i64), (.int .i64), (.int .i64), (.int .i64), (.int .i64)]), (.slc [(.int .i64)]), (.slc [(.int .i64)]), (.int .i64), (.int .i64), (.slc [(.int .i64)]), (.int .i64), (.slc [(.int .i64)]), (.slc [(.int .i64)]), (.slc [(.int .i64)]), (.int .i64)])] [(.cell (.v 2 (.slc [.str, (.int .i64), (.int .i64), (.int .i64), (.int .i64), (.int .i64), (.slc [(.int .i64)]), (.slc [(.int .i64), (.int .i64), (.int .i64), (.int .i64), (.int .i64), (.int .i64)]), (.slc [(.int .i64)]), (.slc [(.int .i64)]), (.int .i64), (.int .i64), (.slc [(.int .i64)]), (.int .i64), (.slc [(.int .i64)]), (.slc [(.int .i64)]), (.slc [(.int .i64)]), (.int .i64)])) (.v 4 (.int .i64)) 0 .str), (.cell (.v 2 (.slc [.str, (.int .i64), (.int .i64), (.int .i64), (.int .i64), (.int .i64), (.slc [(.int .i64)]), (.slc [(.int .i64), (.int .i64), (.int .i64), (.int .i64), (.int .i64), (.int .i64)]), (.slc [(.int .i64)]), (.slc [(.int .i64)]), (.int .i64), (.int .i64), (.slc [(.int .i64)]), (.int .i64), (.slc [(.int .i64)]), (.slc [(.int .i64)]), (.slc [(.int .i64)]), (.int .i64)])) (.v 4 (.int .i64)) 1 (.int .i64)), (.cell (.v 2 (.slc [.str, (.int .i64), (.int .i64), (.int .i64), (.int .i64), (.int .i64), (.slc [(.int .i64)]), (.slc [(.int .i64), (.int .i64), (.int .i64), (.int .i64), (.int .i64), (.int .i64)]), (.slc [(.int .i64)]), (.slc [(.int .i64)]), (.int .i64), (.int .i64), (.slc [(.int .i64)]), (.int .i64), (.slc [(.int .i64)]), (.slc [(.int .i64)]), (.slc [(.int .i64)]), (.int .i64)])) (.v 4 (.int .i64)) 2 (.int .i64)), (.cell (.v 2 (.slc [.str, (.int .i64), (.int .i64), (.int .i64), (.int .i64), (.int .i64), (.slc [(.int .i64)]), (.slc [(.int .i64), (.int .i64), (.int .i64), (.int .i64), (.int .i64), (.int .i64)]), (.slc [(.int .i64)]), (.slc [(.int .i64)]), (.int .i64), (.int .i64), (.slc [(.int .i64)]), (.int .i64), (.slc [(.int .i64)]), (.slc [(.int .i64)]), (.slc [(.int .i64)]), (.int .i64)])) (.v 4 (.int .i64)) 3 (.int .i64)), (.cell (.v 2 (.slc [.str, (.int .i64), (.int .i64), (.int .i64), (.int .i64), (.int .i64), (.slc [(.int .i64)]), (.slc [(.int .i64), (.int .i64), (.int .i64), (.int .i64), (.int .i64), (.int .i64)]), (.slc [(.int .i64)]), (.slc [(.int .i64)]), (.int .i64), (.int .i64), (.slc [(.int .i64)]), (.int .i64), (.slc [(.int .i64)]), (.slc [(.int .i64)]), (.slc [(.int .i64)]), (.int .i64)])) (.v 4 (.int .i64)) 4 (.int .i64)), (.cell (.v 2 (.slc [.str, (.int .i64), (.int .i64), (.int .i64), (.int .i64), (.int .i64), (.slc [(.int .i64)]), (.slc [(.int .i64), (.int .i64), (.int .i64), (.int .i64), (.int .i64), (.int .i64)]), (.slc [(.int .i64)]), (.slc [(.int .i64)]), (.int .i64), (.int .i64), (.slc [(.int .i64)]), (.int .i64), (.slc [(.int .i64)]), (.slc [(.int .i64)]), (.slc [(.int .i64)]), (.int .i64)])) (.v 4 (.int .i64)) 5 (.int .i64)), (.cell (.v 2 (.slc [.str, (.int .i64), (.int .i64), (.int .i64), (.int .i64), (.int .i64), (.slc [(.int .i64)]), (.slc [(.int .i64), (.int .i64), (.int .i64), (.int .i64), (.int .i64), (.int .i64)]), (.slc [(.int .i64)]), (.slc [(.int .i64)]), (.int .i64), (.int .i64), (.slc [(.int .i64)]), (.int .i64), (.slc [(.int .i64)]), (.slc [(.int .i64)]), (.slc [(.int .i64)]), (.int .i64)])) (.v 4 (.int .i64)) 6 (.slc [(.int .i64)])), (.cell (.v 2 (.slc [.str, (.int .i64), (.int .i64), (.int .i64), (.int .i64), (.int .i64), (.slc [(.int .i64)]), (.slc [(.int .i64), (.int .i64), (.int .i64), (.int .i64), (.int .i64), (.int .i64)]), (.slc [(.int .i64)]), (.slc [(.int .i64)]), (.int .i64), (.int .i64), (.slc [(.int .i64)]), (.int .i64), (.slc [(.int .i64)]), (.slc [(.int .i64)]), (.slc [(.int .i64)]), (.int .i64)])) (.v 4 (.int .i64)) 7 (.slc [(.int .i64), (.int .i64), (.int .i64), (.int .i64), (.int .i64), (.int .i64)])), (.cell (.v 2 (.slc [.str, (.int .i64), (.int .i64), (.int .i64), (.int .i64), (.int .i64), (.slc [(.int .i64)]), (.slc [(.int .i64), (.int .i64), (.int .i64), (.int .i64), (.int .i64), (.int .i64)]), (.slc [(.int .i64)]), (.slc [(.int .i64)]), (.int .i64), (.int .i64), (.slc [(.int .i64)]), (.int .i64), (.slc [(.int .i64)]), (.slc [(.int .i64)]), (.slc [(.int .i64)]), (.int .i64)])) (.v 4 (.int .i64)) 8 (.slc [(.int .i64)])), (.cell (.v 2 (.slc [.str, (.int .i64), (.int .i64), (.int .i64), (.int .i64), (.int .i64), (.slc [(.int .i64)]), (.slc [(.int .i64), (.int .i64), (.int .i64), (.int .i64), (.int .i64), (.int .i64)]), (.slc [(.int .i64)]), (.slc [(.int .i64)]), (.int .i64), (.int .i64), (.slc [(.int .i64)]), (.int .i64), (.slc [(.int .i64)]), (.slc [(.int .i64)]), (.slc [(.int .i64)]), (.int .i64)])) (.v 4 (.int .i64)) 9 (.slc [(.int .i64)])), (.cell (.v 2 (.slc [.str, (.int .i64), (.int .i64), (.int .i64), (.int .i64), (.int .i64), (.slc [(.int .i64)]), (.slc [(.int .i64), (.int .i64), (.int .i64), (.int .i64), (.int .i64), (.int .i64)]), (.slc [(.int .i64)]), (.slc [(.int .i64)]), (.int .i64), (.int .i64), (.slc [(.int .i64)]), (.int .i64), (.slc [(.int .i64)]), (.slc [(.int .i64)]), (.slc [(.int .i64)]), (.int .i64)])) (.v 4 (.int .i64)) 10 (.int .i64)), (.cell (.v 2 (.slc [.str, (.int .i64), (.int .i64), (.int .i64), (.int .i64), (.int .i64), (.slc [(.int .i64)]), (.slc [(.int .i64), (.int .i64), (.int .i64), (.int .i64), (.int .i64), (.int .i64)]), (.slc [(.int .i64)]), (.slc [(.int .i64)]), (.int .i64), (.int .i64), (.slc [(.int .i64)]), (.int .i64), (.slc [(.int .i64)]), (.slc [(.int .i64)]), (.slc [(.int .i64)]), (.int .i64)])) (.v 4 (.int .i64)) 11 (.int .i64)), (.cell (.v 2 (.slc [.str, (.int .i64), (.int .i64), (.int .i64), (.int .i64), (.int .i64), (.slc [(.int .i64)]), (.slc [(.int .i64), (.int .i64), (.int .i64), (.int .i64), (.int .i64), (.int .i64)]), (.slc [(.int .i64)]), (.slc [(.int .i64)]), (.int .i64), (.int .i64), (.slc [(.int .i64)]), (.int .i64), (.slc [(.int .i64)]), (.slc [(.int .i64)]), (.slc [(.int .i64)]), (.int .i64)])) (.v 4 (.int .i64)) 12 (.slc [(.int .i64)])), (.cell (.v 2 (.slc [.str, (.int .i64), (.int .i64), (.int .i64), (.int .i64), (.int .i64), (.slc [(.int .i64)]), (.slc [(.int .i64), (.int .i64), (.int .i64), (.int .i64), (.int .i64), (.int .i64)]), (.slc [(.int .i64)]), (.slc [(.int .i64)]), (.int .i64), (.int .i64), (.slc [(.int .i64)]), (.int .i64), (.slc [(.int .i64)]), (.slc [(.int .i64)]), (.slc [(.int .i64)]), (.int .i64)])) (.v 4 (.int .i64)) 13 (.int .i64)), (.cell (.v 2 (.slc [.str, (.int .i64), (.int .i64), (.int .i64), (.int .i64), (.int .i64), (.slc [(.int .i64)]), (.slc [(.int .i64), (.int .i64), (.int .i64), (.int .i64), (.int .i64), (.int .i64)]), (.slc [(.int .i64)]), (.slc [(.int .i64)]), (.int .i64), (.int .i64), (.slc [(.int .i64)]), (.int .i64), (.slc [(.int .i64)]), (.slc [(.int .i64)]), (.slc [(.int .i64)]), (.int .i64)])) (.v 4 (.int .i64)) 14 (.slc [(.int .i64)])), (.cell (.v 2 (.slc [.str, (.int .i64), (.int .i64), (.int .i64), (.int .i64), (.int .i64), (.slc [(.int .i64)]), (.slc [(.int .i64), (.int .i64), (.int .i64), (.int .i64), (.int .i64), (.int .i64)]), (.slc [(.int .i64)]), (.slc [(.int .i64)]), (.int .i64), (.int .i64), (.slc [(.int .i64)]), (.int .i64), (.slc [(.int .i64)]), (.slc [(.int .i64)]), (.slc [(.int .i64)]), (.int .i64)])) (.v 4 (.int .i64)) 15 (.slc [(.int .i64)])), (.cell (.v 2 (.slc [.str, (.int .i64), (.int .i64), (.int .i64), (.int .i64), (.int .i64), (.slc [(.int .i64)]), (.slc [(.int .i64), (.int .i64), (.int .i64), (.int .i64), (.int .i64), (.int .i64)]), (.slc [(.int .i64)]), (.slc [(.int .i64)]), (.int .i64), (.int .i64), (.slc [(.int .i64)]), (.int .i64), (.slc [(.int .i64)]), (.slc [(.int .i64)]), (.slc [(.int .i64)]), (.int .i64)])) (.v 4 (.int .i64)) 16 (.slc [(.int .i64)])), (.cell (.v 2 (.slc [.str, (.int .i64), (.int .i64), (.int .i64), (.int .i64), (.int .i64), (.slc [(.int .i64)]), (.slc [(.int .i64), (.int .i64), (.int .i64), (.int .i64), (.int .i64), (.int .i64)]), (.slc [(.int .i64)]), (.slc [(.int .i64)]), (.int .i64), (.int .i64), (.slc [(.int .i64)]), (.int .i64), (.slc [(.int .i64)]), (.slc [(.int .i64)]), (.slc [(.int .i64)]), (.int .i64)])) (.v 4 (.int .i64)) 17 (.int .i64)), (.cell (.v 0 (.slc [.str, (.int .i64), (.int .i64), (.int .i64), (.int .i64), (.int .i64), (.slc [(.int .i64)]), (.slc [(.int .i64), (.int .i64), (.int .i64), (.int .i64), (.int .i64), (.int .i64)]), (.slc [(.int .i64)]), (.slc [(.int .i64)]), (.int .i64), (.int .i64), (.slc [(.int .i64)]), (.int .i64), (.slc [(.int .i64)]), (.slc [(.int .i64)]), (.slc [(.int .i64)]), (.int .i64)])) (.v 4 (.int .i64)) 0 .str), (.cell (.v 0 (.slc [.str, (.int .i64), (.int .i64), (.int .i64), (.int .i64), (.int .i64), (.slc [(.int .i64)]), (.slc [(.int .i64), (.int .i64), (.int .i64), (.int .i64), (.int .i64), (.int .i64)]), (.slc [(.int .i64)]), (.slc [(.int .i64)]), (.int .i64), (.int .i64), (.slc [(.int .i64)]), (.int .i64), (.slc [(.int .i64)]), (.slc [(.int .i64)]), (.slc [(.int .i64)]), (.int .i64)])) (.v 4 (.int .i64)) 1 (.int .i64)), (.cell (.v 0 (.slc [.str, (.int .i64), (.int .i64), (.int .i64), (.int .i64), (.int .i64), (.slc [(.int .i64)]), (.slc [(.int .i64), (.int .i64), (.int .i64), (.int .i64), (.int .i64), (.int .i64)]), (.slc [(.int .i64)]), (.slc [(.int .i64)]), (.int .i64), (.int .i64), (.slc [(.int .i64)]), (.int .i64), (.slc [(.int .i64)]), (.slc [(.int .i64)]), (.slc [(.int .i64)]), (.int .i64)])) (.v 4 (.int .i64)) 2 (.int .i64)), (.cell (.v 0 (.slc [.str, (.int .i64), (.int .i64), (.int .i64), (.int .i64), (.int .i64), (.slc [(.int .i64)]), (.slc [(.int .i64), (.int .i64), (.int .i64), (.int .i64), (.int .i64), (.int .i64)]), (.slc [(.int .i64)]), (.slc [(.int .i64)]), (.int .i64), (.int .i64), (.slc [(.int .i64)]), (.int .i64), (.slc [(.int .i64)]), (.slc [(.int .i64)]), (.slc [(.int .i64)]), (.int .i64)])) (.v 4 (.int .i64)) 3 (.int .i64)), (.cell (.v 0 (.slc [.str, (.int .i64), (.int .i64), (.int .i64), (.int .i64), (.int .i64), (.slc [(.int .i64)]), (.slc [(.int .i64), (.int .i64), (.int .i64), (.int .i64), (.int .i64), (.int .i64)]), (.slc [(.int .i64)]), (.slc [(.int .i64)]), (.int .i64), (.int .i64), (.slc [(.int .i64)]), (.int .i64), (.slc [(.int .i64)]), (.slc [(.int .i64)]), (.slc [(.int .i64)]), (.int .i64)])) (.v 4 (.int .i64)) 4 (.int .i64)), (.cell (.v 0 (.slc [.str, (.int .i64), (.int .i64), (.int .i64), (.int .i64), (.int .i64), (.slc [(.int .i64)]), (.slc [(.int .i64), (.int .i64), (.int .i64), (.int .i64), (.int .i64), (.int .i64)]), (.slc [(.int .i64)]), (.slc [(.int .i64)]), (.int .i64), (.int .i64), (.slc [(.int .i64)]), (.int .i64), (.slc [(.int .i64)]), (.slc [(.int .i64)]), (.slc [(.int .i64)]), (.int .i64)])) (.v 4 (.int .i64)) 5 (.int .i64)), (.cell (.v 0 (.slc [.str, (.int .i64), (.int .i64), (.int .i64), (.int .i64), (.int .i64), (.slc [(.int .i64)]), (.slc [(.int .i64), (.int .i64), (.int .i64), (.int .i64), (.int .i64), (.int .i64)]), (.slc [(.int .i64)]), (.slc [(.int .i64)]), (.int .i64), (.int .i64), (.slc [(.int .i64)]), (.int .i64), (.slc [(.int .i64)]), (.slc [(.int .i64)]), (.slc [(.int .i64)]), (.int .i64)])) (.v 4 (.int .i64)) 6 (.slc [(.int .i64)])), (.cell (.v 0 (.slc [.str, (.int .i64), (.int .i64), (.int .i64), (.int .i64), (.int .i64), (.slc [(.int .i64)]), (.slc [(.int .i64), (.int .i64), (.int .i64), (.int .i64), (.int .i64), (.int .i64)]), (.slc [(.int .i64)]), (.slc [(.int .i64)]), (.int .i64), (.int .i64), (.slc [(.int .i64)]), (.int .i64), (.slc [(.int .i64)]), (.slc [(.int .i64)]), (.slc [(.int .i64)]), (.int .i64)])) (.v 4 (.int .i64)) 7 (.slc [(.int .i64), (.int .i64), (.int .i64), (.int .i64), (.int .i64), (.int .i64)])), (.cell (.v 0 (.slc [.str, (.int .i64), (.int .i64), (.int .i64), (.int .i64), (.int .i64), (.slc [(.int .i64)]), (.slc [(.int .i64), (.int .i64), (.int .i64), (.int .i64), (.int .i64), (.int .i64)]), (.slc [(.int .i64)]), (.slc [(.int .i64)]), (.int .i64), (.int .i64), (.slc [(.int .i64)]), (.int .i64), (.slc [(.int .i64)]), (.slc [(.int .i64)]), (.slc [(.int .i64)]), (.int .i64)])) (.v 4 (.int .i64)) 8 (.slc [(.int .i64)])), (.cell (.v 0 (.slc [.str, (.int .i64), (.int .i64), (.int .i64), (.int .i64), (.int .i64), (.slc [(.int .i64)]), (.slc [(.int .i64), (.int .i64), (.int .i64), (.int .i64), (.int .i64), (.int .i64)]), (.slc [(.int .i64)]), (.slc [(.int .i64)]), (.int .i64), (.int .i64), (.slc [(.int .i64)]), (.int .i64), (.slc [(.int .i64)]), (.slc [(.int .i64)]), (.slc [(.int .i64)]), (.int .i64)])) (.v 4 (.int .i64)) 9 (.slc [(.int .i64)])), (.cell (.v 0 (.slc [.str, (.int .i64), (.int .i64), (.int .i64), (.int .i64), (.int .i64), (.slc [(.int .i64)]), (.slc [(.int .i64), (.int .i64), (.int .i64), (.int .i64), (.int .i64), (.int .i64)]), (.slc [(.int .i64)]), (.slc [(.int .i64)]), (.int .i64), (.int .i64), (.slc [(.int .i64)]), (.int .i64), (.slc [(.int .i64)]), (.slc [(.int .i64)]), (.slc [(.int .i64)]), (.int .i64)])) (.v 4 (.int .i64)) 10 (.int .i64)), (.cell (.v 0 (.slc [.str, (.int .i64), (.int .i64), (.int .i64), (.int .i64), (.int .i64), (.slc [(.int .i64)]), (.slc [(.int .i64), (.int .i64), (.int .i64), (.int .i64), (.int .i64), (.int .i64)]), (.slc [(.int .i64)]), (.slc [(.int .i64)]), (.int .i64), (.int .i64), (.slc [(.int .i64)]), (.int .i64), (.slc [(.int .i64)]), (.slc [(.int .i64)]), (.slc [(.int .i64)]), (.int .i64)])) (.v 4 (.int .i64)) 11 (.int .i64)), (.cell (.v 0 (.slc [.str, (.int .i64), (.int .i64), (.int .i64), (.int .i64), (.int .i64), (.slc [(.int .i64)]), (.slc [(.int .i64), (.int .i64), (.int .i64), (.int .i64), (.int .i64), (.int .i64)]), (.slc [(.int .i64)]), (.slc [(.int .i64)]), (.int .i64), (.int .i64), (.slc [(.int .i64)]), (.int .i64), (.slc [(.int .i64)]), (.slc [(.int .i64)]), (.slc [(.int .i64)]), (.int .i64)])) (.v 4 (.int .i64)) 12 (.slc [(.int .i64)])), (.cell (.v 0 (.slc [.str, (.int .i64), (.int .i64), (.int .i64), (.int .i64), (.int .i64), (.slc [(.int .i64)]), (.slc [(.int .i64), (.int .i64), (.int .i64), (.int .i64), (.int .i64), (.int .i64)]), (.slc [(.int .i64)]), (.slc [(.int .i64)]), (.int .i64), (.int .i64), (.slc [(.int .i64)]), (.int .i64), (.slc [(.int .i64)]), (.slc [(.int .i64)]), (.slc [(.int .i64)]), (.int .i64)])) (.v 4 (.int .i64)) 13 (.int .i64)), (.cell (.v 0 (.slc [.str, (.int .i64), (.int .i64), (.int .i64), (.int .i64), (.int .i64), (.slc [(.int .i64)]), (.slc [(.int .i64), (.int .i64), (.int .i64), (.int .i64), (.int .i64), (.int .i64)]), (.slc [(.int .i64)]), (.slc [(.int .i64)]), (.int .i64), (.int .i64), (.slc [(.int .i64)]), (.int .i64), (.slc [(.int .i64)]), (.slc [(.int .i64)]), (.slc [(.int .i64)]), (.int .i64)])) (.v 4 (.int .i64)) 14 (.slc [(.int .i64)])), (.cell (.v 0 (.slc [.str, (.int .i64), (.int .i64), (.int .i64), (.int .i64), (.int .i64), (.slc [(.int .i64)]), (.slc [(.int .i64), (.int .i64), (.int .i64), (.int .i64), (.int .i64), (.int .i64)]), (.slc [(.int .i64)]), (.slc [(.int .i64)]), (.int .i64), (.int .i64), (.slc [(.int .i64)]), (.int .i64), (.slc [(.int .i64)]), (.slc [(.int .i64)]), (.slc [(.int .i64)]), (.int .i64)])) (.v 4 (.int .i64)) 15 (.slc [(.int .i64)])), (.cell (.v 0 (.slc [.str, (.int .i64), (.int .i64), (.int .i64), (.int .i64), (.int .i64), (.slc [(.int .i64)]), (.slc [(.int .i64), (.int .i64), (.int .i64), (.int .i64), (.int .i64), (.int .i64)]), (.slc [(.int .i64)]), (.slc [(.int .i64)]), (.int .i64), (.int .i64), (.slc [(.int .i64)]), (.int .i64), (.slc [(.int .i64)]), (.slc [(.int .i64)]), (.slc [(.int .i64)]), (.int .i64)])) (.v 4 (.int .i64)) 16 (.slc [(.int .i64)])), (.cell (.v 0 (.slc [.str, (.int .i64), (.int .i64), (.int .i64), (.int .i64), (.int .i64), (.slc [(.int .i64)]), (.slc [(.int .i64), (.int .i64), (.int .i64), (.int .i64), (.int .i64), (.int .i64)]), (.slc [(.int .i64)]), (.slc [(.int .i64)]), (.int .i64), (.int .i64), (.slc [(.int .i64)]), (.int .i64), (.slc [(.int .i64)]), (.slc [(.int .i64)]), (.slc [(.int .i64)]), (.int .i64)])) (.v 4 (.int .i64)) 17 (.int .i64))] [(.one .bool)]
  (.ite (.not (.v 5 .bool))
   (.ret [(.b false)])
   (.jump 0 [(.v 0 (.slc [.str, (.int .i64), (.int .i64), (.int .i64), (.int .i64), (.int .i64), (.slc [(.int .i64)]), (.slc [(.int .i64), (.int .i64), (.int .i64), (.int .i64), (.int .i64), (.int .i64)]), (.slc [(.int .i64)]), (.slc [(.int .i64)]), (.int .i64), (.int .i64), (.slc [(.int .i64)]), (.int .i64), (.slc [(.int .i64)]), (.slc [(.int .i64)]), (.slc [(.int .i64)]), (.int .i64)])), (.v 1 .bool), (.v 2 (.slc [.str, (.int .i64), (.int .i64), (.int .i64), (.int .i64), (.int .i64), (.slc [(.int .i64)]), (.slc [(.int .i64), (.int .i64), (.int .i64), (.int .i64), (.int .i64), (.int .i64)]), (.slc [(.int .i64)]), (.slc [(.int .i64)]), (.int .i64), (.int .i64), (.slc [(.int .i64)]), (.int .i64), (.slc [(.int .i64)]), (.slc [(.int .i64)]), (.slc [(.int .i64)]), (.int .i64)])), (.v 3 (.int .i64)), (.ar .add .i64 (.v 4 (.int .i64)) (.n .i64 1))])))))
  (.ret [(.b true)]))
def B_slices_EqualFunc_Rule : Nat → T
  | 0 => t0_slices_EqualFunc_Rule
  | _ => .dead
theorem ok_slices_EqualFunc_Rule : c_slices_EqualFunc_Rule.Ok 35 B_slices_EqualFunc_Rule := ok_of Tryd.func35 (by kernel_rfl) mixed
  (.cons (n := 100000) (by kernel_rfl) (.nil))
theorem correct_slices_EqualFunc_Rule {ds rs : List D} (h : Ev (Corr Tryd.prog lay) B_slices_EqualFunc_Rule t_slices_EqualFunc_Rule ds rs) : Corr Tryd.prog lay 35 k_slices_EqualFunc_Rule ds r_slices_EqualFunc_Rule rs :=
  correct_of ok_slices_EqualFunc_Rule (n := 100000) (t := t_slices_EqualFunc_Rule) (by kernel_rfl) (by kernel_rfl) h
noncomputable def S_slices_EqualFunc_Rule : Nat → List D → List D
  | 36, ds => s_protocol_equalRule ds
  | _, _ => []
def P_slices_EqualFunc_Rule : Nat → List K → List D → List K → Prop
  | 36, ks, ds, rk => ks = k_protocol_equalRule ∧ rk = r_protocol_equalRule ∧ p_protocol_equalRule ds
  | _, _, _, _ => False
theorem use_slices_EqualFunc_Rule : ∀ g ks ds rk xs, ByS P_slices_EqualFunc_Rule S_slices_EqualFunc_Rule g ks ds rk xs → Corr Tryd.prog lay g ks ds rk xs := by
  intro g ks ds rk xs h
  obtain ⟨h1, rfl⟩ := h
  unfold P_slices_EqualFunc_Rule at h1
  split at h1
  · obtain ⟨rfl, rfl, h1⟩ := h1; exact spec_protocol_equalRule ds h1
  · exact h1.elim
theorem spec_of_slices_EqualFunc_Rule (law : ∀ ds, D.wts (K.tyss k_slices_EqualFunc_Rule) ds → p_slices_EqualFunc_Rule ds → Ev (ByS P_slices_EqualFunc_Rule S_slices_EqualFunc_Rule) B_slices_EqualFunc_Rule t_slices_EqualFunc_Rule ds (s_slices_EqualFunc_Rule ds)) : ∀ ds, p_slices_EqualFunc_Rule ds → Corr Tryd.prog lay 35 k_slices_EqualFunc_Rule ds r_slices_EqualFunc_Rule (s_slices_EqualFunc_Rule ds) :=
  fun ds hp => .of_wt (by decide) fun hw => correct_slices_EqualFunc_Rule ((law ds hw hp).monoC use_slices_EqualFunc_Rule)
theorem loop_slices_EqualFunc_Rule (es fs : List (List D)) (hl : es.length = fs.length) (he : es.length ≤ maxLen) (hes : ∀ c ∈ es, D.wts [.str, .int .i64, .int .i64, .int .i64, .int .i64, .int .i64, .slc [.int .i64], .slc [.int .i64, .int .i64, .int .i64, .int .i64, .int .i64, .int .i64], .slc [.int .i64], .slc [.int .i64], .int .i64, .int .i64, .slc [.int .i64], .int .i64, .slc [.int .i64], .slc [.int .i64], .slc [.int .i64], .int .i64] c) (hfs : ∀ c ∈ fs, D.wts [.str, .int .i64, .int .i64, .int .i64, .int .i64, .int .i64, .slc [.int .i64], .slc [.int .i64, .int .i64, .int .i64, .int .i64, .int .i64, .int .i64], .slc [.int .i64], .slc [.int .i64], .int .i64, .int .i64, .slc [.int .i64], .int .i64, .slc [.int .i64], .slc [.int .i64], .slc [.int .i64], .int .i64] c) (st : D) : ∀ (m i : Nat), es.length - i = m → i ≤ es.length →
    Ev (ByS P_slices_EqualFunc_Rule S_slices_EqualFunc_Rule) B_slices_EqualFunc_Rule (B_slices_EqualFunc_Rule 0) [.slc fs, st, .slc es, .int .i64 es.length, .int .i64 i] [.bool (same (es.drop i) (fs.drop i))] := by
  intro m
  induction m with
  | zero =>
    intro i hm h1
    have hi : ¬ (i < es.length) := by omega
    rw [List.drop_eq_nil_iff.2 (by omega), List.drop_eq_nil_iff.2 (by omega), same_nil]
    show Ev _ _ t0_slices_EqualFunc_Rule _ _
    simp [t0_slices_EqualFunc_Rule, K.rts, K.otyss, K.otys, CK.tyss, CK.tys, K.tyss, K.tys, Ev.call_iff, Ev.ite_iff, Ev.guard_iff, Ev.ret_iff, Ev.jump_iff, E.dens, E.denss, E.den, cmpD, arD, scmpD, ByteArray.toList_eq, hi]
  | succ m ih =>
    intro i hm h1
    have hlt : i < es.length := by omega
    have hlt2 : i < fs.length := by omega
    have hw : IntKind.i64.wrap ((i : Int) + 1) = (i : Int) + 1 := by rw [wrap64 (by omega) (by unfold maxLen at *; omega)]
    have hnext := ih (i + 1) (by omega) (by omega)
    rw [Int.natCast_add, Int.natCast_one] at hnext
    rw [List.drop_eq_getElem_cons hlt, List.drop_eq_getElem_cons hlt2, same_cons]
    obtain ⟨a0_, _, ha, ⟨x0, rfl⟩, a1_, _, rfl, ⟨x1, rfl⟩, a2_, _, rfl, ⟨x2, rfl⟩, a3_, _, rfl, ⟨x3, rfl⟩, a4_, _, rfl, ⟨x4, rfl⟩, a5_, _, rfl, ⟨x5, rfl⟩, a6_, _, rfl, wa6, a7_, _, rfl, wa7, a8_, _, rfl, wa8, a9_, _, rfl, wa9, a10_, _, rfl, ⟨x10, rfl⟩, a11_, _, rfl, ⟨x11, rfl⟩, a12_, _, rfl, wa12, a13_, _, rfl, ⟨x13, rfl⟩, a14_, _, rfl, wa14, a15_, _, rfl, wa15, a16_, _, rfl, wa16, a17_, _, rfl, ⟨x17, rfl⟩, rfl⟩ := hes es[i] (List.getElem_mem hlt)
    obtain ⟨b0_, _, hb, ⟨y0, rfl⟩, b1_, _, rfl, ⟨y1, rfl⟩, b2_, _, rfl, ⟨y2, rfl⟩, b3_, _, rfl, ⟨y3, rfl⟩, b4_, _, rfl, ⟨y4, rfl⟩, b5_, _, rfl, ⟨y5, rfl⟩, b6_, _, rfl, wb6, b7_, _, rfl, wb7, b8_, _, rfl, wb8, b9_, _, rfl, wb9, b10_, _, rfl, ⟨y10, rfl⟩, b11_, _, rfl, ⟨y11, rfl⟩, b12_, _, rfl, wb12, b13_, _, rfl, ⟨y13, rfl⟩, b14_, _, rfl, wb14, b15_, _, rfl, wb15, b16_, _, rfl, wb16, b17_, _, rfl, ⟨y17, rfl⟩, rfl⟩ := hfs fs[i] (List.getElem_mem hlt2)
    have hr : s_protocol_equalRule [D.str x0, D.int .i64 x1, D.int .i64 x2, D.int .i64 x3, D.int .i64 x4, D.int .i64 x5, a6_, a7_, a8_, a9_, D.int .i64 x10, D.int .i64 x11, a12_, D.int .i64 x13, a14_, a15_, a16_, D.int .i64 x17, D.str y0, D.int .i64 y1, D.int .i64 y2, D.int .i64 y3, D.int .i64 y4, D.int .i64 y5, b6_, b7_, b8_, b9_, D.int .i64 y10, D.int .i64 y11, b12_, D.int .i64 y13, b14_, b15_, b16_, D.int .i64 y17] = [.bool (same es[i] fs[i])] := by rw [ha, hb]; rfl
    show Ev _ _ t0_slices_EqualFunc_Rule _ _
    by_cases hc : same es[i] fs[i] = true
    · rw [hc, Bool.true_and]
      simp [t0_slices_EqualFunc_Rule, P_slices_EqualFunc_Rule, S_slices_EqualFunc_Rule, k_protocol_equalRule, r_protocol_equalRule, p_protocol_equalRule, K.rts, K.otyss, K.otys, CK.tyss, CK.tys, K.tyss, K.tys, Ev.call_iff, Ev.ite_iff, Ev.guard_iff, Ev.ret_iff, Ev.jump_iff, E.dens, E.denss, E.den, cmpD, arD, scmpD, ByteArray.toList_eq, hlt, hlt2, hw, ha, hb, hr]
      rw [ha, hb] at hc
      simp [hc]
      exact hnext
    · rw [Bool.not_eq_true] at hc
      rw [hc, Bool.false_and]
      simp [t0_slices_EqualFunc_Rule, P_slices_EqualFunc_Rule, S_slices_EqualFunc_Rule, k_protocol_equalRule, r_protocol_equalRule, p_protocol_equalRule, K.rts, K.otyss, K.otys, CK.tyss, CK.tys, K.tyss, K.tys, Ev.call_iff, Ev.ite_iff, Ev.guard_iff, Ev.ret_iff, Ev.jump_iff, E.dens, E.denss, E.den, cmpD, arD, scmpD, ByteArray.toList_eq, hlt, hlt2, hw, ha, hb, hr]
      rw [ha, hb] at hc
      simp [hc]
theorem law_slices_EqualFunc_Rule (ds : List D) (hw : D.wts (K.tyss k_slices_EqualFunc_Rule) ds) (hp : p_slices_EqualFunc_Rule ds) : Ev (ByS P_slices_EqualFunc_Rule S_slices_EqualFunc_Rule) B_slices_EqualFunc_Rule t_slices_EqualFunc_Rule ds (s_slices_EqualFunc_Rule ds) := by
  obtain ⟨a0, _, rfl, ha0, a1, _, rfl, ha1, rfl⟩ := hw
  obtain ⟨es, rfl, he, hes⟩ := ha0
  obtain ⟨fs, rfl, hf, hfs⟩ := ha1
  have hd : same (D.slc es) (D.slc fs) = same es fs := same_slc es fs
  by_cases hl : es.length = fs.length
  · have loop := loop_slices_EqualFunc_Rule es fs hl he hes hfs (.bool false) _ 0 rfl (Nat.zero_le _)
    rw [List.drop_zero, List.drop_zero] at loop
    simp [t_slices_EqualFunc_Rule, s_slices_EqualFunc_Rule, Ev.ite_iff, Ev.ret_iff, Ev.jump_iff, E.dens, E.den, cmpD, hl, hd]
    rw [hl] at loop
    exact loop
  · have hl' : ¬ ((es.length : Int) = fs.length) := by omega
    have hne : same es fs = false := same_ne (fun h => hl (by rw [h]))
    simp [t_slices_EqualFunc_Rule, s_slices_EqualFunc_Rule, Ev.ite_iff, Ev.ret_iff, Ev.jump_iff, E.dens, E.den, cmpD, hl, hl', hd, hne]

theorem spec_slices_EqualFunc_Rule : ∀ ds, p_slices_EqualFunc_Rule ds → Corr Tryd.prog lay 35 k_slices_EqualFunc_Rule ds r_slices_EqualFunc_Rule (s_slices_EqualFunc_Rule ds) := spec_of_slices_EqualFunc_Rule law_slices_EqualFunc_Rule
/- familycheck/protocol.Equal -/
def k_protocol_Equal : List K := [(.agg [.str, (.int .i64), (.slc [.str]), (.slc [.str]), (.slc [.str]), (.int .i64), (.slc [(.int .i64), (.int .i64), (.int .i64), (.int .i64)]), (.slc [(.int .i64)]), (.slc [(.int .i64)]), (.slc [.str, (.int .i64), (.int .i64), (.int .i64), (.int .i64), (.int .i64), (.slc [(.int .i64)]), (.slc [(.int .i64), (.int .i64), (.int .i64), (.int .i64), (.int .i64), (.int .i64)]), (.slc [(.int .i64)]), (.slc [(.int .i64)]), (.int .i64), (.int .i64), (.slc [(.int .i64)]), (.int .i64), (.slc [(.int .i64)]), (.slc [(.int .i64)]), (.slc [(.int .i64)]), (.int .i64)])]), (.agg [.str, (.int .i64), (.slc [.str]), (.slc [.str]), (.slc [.str]), (.int .i64), (.slc [(.int .i64), (.int .i64), (.int .i64), (.int .i64)]), (.slc [(.int .i64)]), (.slc [(.int .i64)]), (.slc [.str, (.int .i64), (.int .i64), (.int .i64), (.int .i64), (.int .i64), (.slc [(.int .i64)]), (.slc [(.int .i64), (.int .i64), (.int .i64), (.int .i64), (.int .i64), (.int .i64)]), (.slc [(.int .i64)]), (.slc [(.int .i64)]), (.int .i64), (.int .i64), (.slc [(.int .i64)]), (.int .i64), (.slc [(.int .i64)]), (.slc [(.int .i64)]), (.slc [(.int .i64)]), (.int .i64)])])]
def r_protocol_Equal : List K := [(.one .bool)]
def b_protocol_Equal : List Blk := []
noncomputable def c_protocol_Equal : Ctx := mkCtx Tryd.prog lay Tryd.f15 ⟨[(26, [(.one .bool)]), (33, [(.one .bool)]), (34, [(.one .bool)]), (35, [(.one .bool)])], [], []⟩ k_protocol_Equal r_protocol_Equal [] b_protocol_Equal
def t_protocol_Equal : T :=
 (.call 33 [(.one (.slc [.str])), (.one (.slc [.str]))] [(.v 2 (.slc [.str])), (.v 12 (.slc [.str]))] [(.one .bool)]
 (.ite (.v 20 .bool)
  (.call 33 [(.one (.slc [.str])), (.one (.slc [.str]))] [(.v 3 (.slc [.str])), (.v 13 (.slc [.str]))] [(.one .bool)]
  (.ite (.v 21 .bool)
   (.call 33 [(.one (.slc [.str])), (.one (.slc [.str]))] [(.v 4 (.slc [.str])), (.v 14 (.slc [.str]))] [(.one .bool)]
   (.ite (.v 22 .bool)
    (.call 34 [(.one (.slc [(.int .i64), (.int .i64), (.int .i64), (.int .i64)])), (.one (.slc [(.int .i64), (.int .i64), (.int .i64), (.int .i64)]))] [(.v 6 (.slc [(.int .i64), (.int .i64), (.int .i64), (.int .i64)])), (.v 16 (.slc [(.int .i64), (.int .i64), (.int .i64), (.int .i64)]))] [(.one .bool)]
    (.ite (.v 23 .bool)
     (.call 26 [(.one (.slc [(.int .i64)])), (.one (.slc [(.int .i64)]))] [(.v 7 (.slc [(.int .i64)])), (.v 17 (.slc [(.int .i64)]))] [(.one .bool)]
     (.ite (.v 24 .bool)
      (.call 26 [(.one (.slc [(.int .i64)])), (.one (.slc [(.int .i64)]))] [(.v 8 (.slc [(.int .i64)])), (.v 18 (.slc [(.int .i64)]))] [(.one .bool)]
      (.ite (.v 25 .bool)
       (.ite (.scmp .eql (.v 0 .str) (.v 10 .str))
        (.ite (.cmp .eql (.v 1 (.int .i64)) (.v 11 (.int .i64)))
         (.ite (.cmp .eql (.v 5 (.int .i64)) (.v 15 (.int .i64)))
          (.call 35 [(.one (.slc [.str, (.int .i64), (.int .i64), (.int .i64), (.int .i64), (.int .i64), (.slc [(.int .i64)]), (.slc [(.int .i64), (.int .i64), (.int .i64), (.int .i64), (.int .i64), (.int .i64)]), (.slc [(.int .i64)]), (.slc [(.int .i64)]), (.int .i64), (.int .i64), (.slc [(.int .i64)]), (.int .i64), (.slc [(.int .i64)]), (.slc [(.int .i64)]), (.slc [(.int .i64)]), (.int .i64)])), (.one (.slc [.str, (.int .i64), (.int .i64), (.int .i64), (.int .i64), (.int .i64), (.slc [(.int .i64)]), (.slc [(.int .i64), (.int .i64), (.int .i64), (.int .i64), (.int .i64), (.int .i64)]), (.slc [(.int .i64)]), (.slc [(.int .i64)]), (.int .i64), (.int .i64), (.slc [(.int .i64)]), (.int .i64), (.slc [(.int .i64)]), (.slc [(.int .i64)]), (.slc [(.int .i64)]), (.int .i64)])), (.clo 36 [])] [(.v 9 (.slc [.str, (.int .i64), (.int .i64), (.int .i64), (.int .i64), (.int .i64), (.slc [(.int .i64)]), (.slc [(.int .i64), (.int .i64), (.int .i64), (.int .i64), (.int .i64), (.int .i64)]), (.slc [(.int .i64)]), (.slc [(.int .i64)]), (.int .i64), (.int .i64), (.slc [(.int .i64)]), (.int .i64), (.slc [(.int .i64)]), (.slc [(.int .i64)]), (.slc [(.int .i64)]), (.int .i64)])), (.v 19 (.slc [.str, (.int .i64), (.int .i64), (.int .i64), (.int .i64), (.int .i64), (.slc [(.int .i64)]), (.slc [(.int .i64), (.int .i64), (.int .i64), (.int .i64), (.int .i64), (.int .i64)]), (.slc [(.int .i64)]), (.slc [(.int .i64)]), (.int .i64), (.int .i64), (.slc [(.int .i64)]), (.int .i64), (.slc [(.int .i64)]), (.slc [(.int .i64)]), (.slc [(.int .i64)]), (.int .i64)]))] [(.one .bool)]
          (.ret [(.v 26 .bool)]))
          (.ret [(.b false)]))
         (.ret [(.b false)]))
        (.ret [(.b false)]))
       (.ret [(.b false)])))
      (.ret [(.b false)])))
     (.ret [(.b false)])))
    (.ret [(.b false)])))
   (.ret [(.b false)])))
  (.ret [(.b false)])))
def B_protocol_Equal : Nat → T
  | _ => .dead
theorem ok_protocol_Equal : c_protocol_Equal.Ok 15 B_protocol_Equal := ok_of Tryd.func15 (by kernel_rfl) mixed
  (.nil)
theorem correct_protocol_Equal {ds rs : List D} (h : Ev (Corr Tryd.prog lay) B_protocol_Equal t_protocol_Equal ds rs) : Corr Tryd.prog lay 15 k_protocol_Equal ds r_protocol_Equal rs :=
  correct_of ok_protocol_Equal (n := 100000) (t := t_protocol_Equal) (by kernel_rfl) (by kernel_rfl) h
noncomputable def S_protocol_Equal : Nat → List D → List D
  | 33, ds => s_slices_Equal_string ds
  | 34, ds => s_slices_Equal_Linear ds
  | 26, ds => s_slices_Equal_int ds
  | 35, ds => s_slices_EqualFunc_Rule ds
  | _, _ => []
def P_protocol_Equal : Nat → List K → List D → List K → Prop
  | 33, ks, ds, rk => ks = k_slices_Equal_string ∧ rk = r_slices_Equal_string ∧ p_slices_Equal_string ds
  | 34, ks, ds, rk => ks = k_slices_Equal_Linear ∧ rk = r_slices_Equal_Linear ∧ p_slices_Equal_Linear ds
  | 26, ks, ds, rk => ks = k_slices_Equal_int ∧ rk = r_slices_Equal_int ∧ p_slices_Equal_int ds
  | 35, ks, ds, rk => ks = k_slices_EqualFunc_Rule ∧ rk = r_slices_EqualFunc_Rule ∧ p_slices_EqualFunc_Rule ds
  | _, _, _, _ => False
theorem use_protocol_Equal : ∀ g ks ds rk xs, ByS P_protocol_Equal S_protocol_Equal g ks ds rk xs → Corr Tryd.prog lay g ks ds rk xs := by
  intro g ks ds rk xs h
  obtain ⟨h1, rfl⟩ := h
  unfold P_protocol_Equal at h1
  split at h1
  · obtain ⟨rfl, rfl, h1⟩ := h1; exact spec_slices_Equal_string ds h1
  · obtain ⟨rfl, rfl, h1⟩ := h1; exact spec_slices_Equal_Linear ds h1
  · obtain ⟨rfl, rfl, h1⟩ := h1; exact spec_slices_Equal_int ds h1
  · obtain ⟨rfl, rfl, h1⟩ := h1; exact spec_slices_EqualFunc_Rule ds h1
  · exact h1.elim
theorem spec_of_protocol_Equal (law : ∀ ds, D.wts (K.tyss k_protocol_Equal) ds → p_protocol_Equal ds → Ev (ByS P_protocol_Equal S_protocol_Equal) B_protocol_Equal t_protocol_Equal ds (s_protocol_Equal ds)) : ∀ ds, p_protocol_Equal ds → Corr Tryd.prog lay 15 k_protocol_Equal ds r_protocol_Equal (s_protocol_Equal ds) :=
  fun ds hp => .of_wt (by decide) fun hw => correct_protocol_Equal ((law ds hw hp).monoC use_protocol_Equal)
theorem law_protocol_Equal (ds : List D) (hw : D.wts (K.tyss k_protocol_Equal) ds) (hp : p_protocol_Equal ds) : Ev (ByS P_protocol_Equal S_protocol_Equal) B_protocol_Equal t_protocol_Equal ds (s_protocol_Equal ds) := by
  obtain ⟨a0_, _, rfl, ⟨x0, rfl⟩, a1_, _, rfl, ⟨x1, rfl⟩, a2_, _, rfl, wa2, a3_, _, rfl, wa3, a4_, _, rfl, wa4, a5_, _, rfl, ⟨x5, rfl⟩, a6_, _, rfl, wa6, a7_, _, rfl, wa7, a8_, _, rfl, wa8, a9_, _, rfl, wa9, b0_, _, rfl, ⟨y0, rfl⟩, b1_, _, rfl, ⟨y1, rfl⟩, b2_, _, rfl, wb2, b3_, _, rfl, wb3, b4_, _, rfl, wb4, b5_, _, rfl, ⟨y5, rfl⟩, b6_, _, rfl, wb6, b7_, _, rfl, wb7, b8_, _, rfl, wb8, b9_, _, rfl, wb9, rfl⟩ := hw
  have hs : s_protocol_Equal [D.str x0, D.int .i64 x1, a2_, a3_, a4_, D.int .i64 x5, a6_, a7_, a8_, a9_, D.str y0, D.int .i64 y1, b2_, b3_, b4_, D.int .i64 y5, b6_, b7_, b8_, b9_] = [.bool (same [D.str x0, D.int .i64 x1, a2_, a3_, a4_, D.int .i64 x5, a6_, a7_, a8_, a9_] [D.str y0, D.int .i64 y1, b2_, b3_, b4_, D.int .i64 y5, b6_, b7_, b8_, b9_])] := rfl
  rw [hs]
  simp only [same_cons, same_nil, same_int, same_str, Bool.and_true]
  simp [t_protocol_Equal, P_protocol_Equal, S_protocol_Equal, k_slices_Equal_int, r_slices_Equal_int, s_slices_Equal_int, p_slices_Equal_int, k_slices_Equal_string, r_slices_Equal_string, s_slices_Equal_string, p_slices_Equal_string, k_slices_Equal_Linear, r_slices_Equal_Linear, s_slices_Equal_Linear, p_slices_Equal_Linear, k_slices_EqualFunc_Rule, r_slices_EqualFunc_Rule, s_slices_EqualFunc_Rule, p_slices_EqualFunc_Rule, K.rts, K.otyss, K.otys, CK.tyss, CK.tys, K.tyss, K.tys, Ev.call_iff, Ev.ite_iff, Ev.guard_iff, Ev.ret_iff, Ev.jump_iff, E.dens, E.denss, E.den, cmpD, arD, scmpD, ByteArray.toList_eq]
  repeat' split
  all_goals simp_all

theorem spec_protocol_Equal : ∀ ds, p_protocol_Equal ds → Corr Tryd.prog lay 15 k_protocol_Equal ds r_protocol_Equal (s_protocol_Equal ds) := spec_of_protocol_Equal law_protocol_Equal
/- familycheck/familycheckref02.SameThreshold -/
def k_ref02_SameThreshold : List K := [(.agg [(.int .i64), (.int .i64), (.int .i64), (.int .i64), (.int .i64), (.int .i64)]), (.agg [(.int .i64), (.int .i64), (.int .i64), (.int .i64), (.int .i64), (.int .i64)])]
def r_ref02_SameThreshold : List K := [(.one .bool)]
def b_ref02_SameThreshold : List Blk := []
noncomputable def c_ref02_SameThreshold : Ctx := mkCtx Tryd.prog lay Tryd.f52 ⟨[], [], []⟩ k_ref02_SameThreshold r_ref02_SameThreshold [] b_ref02_SameThreshold
def t_ref02_SameThreshold : T :=
 (.ite (.cmp .eql (.v 0 (.int .i64)) (.v 6 (.int .i64)))
  (.ite (.cmp .eql (.v 1 (.int .i64)) (.v 7 (.int .i64)))
   (.ret [(.and (.cmp .eql (.v 2 (.int .i64)) (.v 8 (.int .i64))) (.and (.cmp .eql (.v 3 (.int .i64)) (.v 9 (.int .i64))) (.and (.cmp .eql (.v 4 (.int .i64)) (.v 10 (.int .i64))) (.and (.cmp .eql (.v 5 (.int .i64)) (.v 11 (.int .i64))) (.b true)))))])
   (.ret [(.b false)]))
  (.ret [(.b false)]))
def B_ref02_SameThreshold : Nat → T
  | _ => .dead
theorem ok_ref02_SameThreshold : c_ref02_SameThreshold.Ok 52 B_ref02_SameThreshold := ok_of Tryd.func52 (by kernel_rfl) mixed
  (.nil)
theorem correct_ref02_SameThreshold {ds rs : List D} (h : Ev (Corr Tryd.prog lay) B_ref02_SameThreshold t_ref02_SameThreshold ds rs) : Corr Tryd.prog lay 52 k_ref02_SameThreshold ds r_ref02_SameThreshold rs :=
  correct_of ok_ref02_SameThreshold (n := 100000) (t := t_ref02_SameThreshold) (by kernel_rfl) (by kernel_rfl) h
noncomputable def S_ref02_SameThreshold : Nat → List D → List D
  | _, _ => []
def P_ref02_SameThreshold : Nat → List K → List D → List K → Prop
  | _, _, _, _ => False
theorem use_ref02_SameThreshold : ∀ g ks ds rk xs, ByS P_ref02_SameThreshold S_ref02_SameThreshold g ks ds rk xs → Corr Tryd.prog lay g ks ds rk xs := by
  intro g ks ds rk xs h
  obtain ⟨h1, rfl⟩ := h
  unfold P_ref02_SameThreshold at h1
  split at h1
  · exact h1.elim
theorem spec_of_ref02_SameThreshold (law : ∀ ds, D.wts (K.tyss k_ref02_SameThreshold) ds → p_ref02_SameThreshold ds → Ev (ByS P_ref02_SameThreshold S_ref02_SameThreshold) B_ref02_SameThreshold t_ref02_SameThreshold ds (s_ref02_SameThreshold ds)) : ∀ ds, p_ref02_SameThreshold ds → Corr Tryd.prog lay 52 k_ref02_SameThreshold ds r_ref02_SameThreshold (s_ref02_SameThreshold ds) :=
  fun ds hp => .of_wt (by decide) fun hw => correct_ref02_SameThreshold ((law ds hw hp).monoC use_ref02_SameThreshold)
theorem law_ref02_SameThreshold (ds : List D) (hw : D.wts (K.tyss k_ref02_SameThreshold) ds) (hp : p_ref02_SameThreshold ds) : Ev (ByS P_ref02_SameThreshold S_ref02_SameThreshold) B_ref02_SameThreshold t_ref02_SameThreshold ds (s_ref02_SameThreshold ds) := by
  obtain ⟨a0_, _, rfl, ⟨x0, rfl⟩, a1_, _, rfl, ⟨x1, rfl⟩, a2_, _, rfl, ⟨x2, rfl⟩, a3_, _, rfl, ⟨x3, rfl⟩, a4_, _, rfl, ⟨x4, rfl⟩, a5_, _, rfl, ⟨x5, rfl⟩, b0_, _, rfl, ⟨y0, rfl⟩, b1_, _, rfl, ⟨y1, rfl⟩, b2_, _, rfl, ⟨y2, rfl⟩, b3_, _, rfl, ⟨y3, rfl⟩, b4_, _, rfl, ⟨y4, rfl⟩, b5_, _, rfl, ⟨y5, rfl⟩, rfl⟩ := hw
  have hs : s_ref02_SameThreshold [D.int .i64 x0, D.int .i64 x1, D.int .i64 x2, D.int .i64 x3, D.int .i64 x4, D.int .i64 x5, D.int .i64 y0, D.int .i64 y1, D.int .i64 y2, D.int .i64 y3, D.int .i64 y4, D.int .i64 y5] = [.bool (same [D.int .i64 x0, D.int .i64 x1, D.int .i64 x2, D.int .i64 x3, D.int .i64 x4, D.int .i64 x5] [D.int .i64 y0, D.int .i64 y1, D.int .i64 y2, D.int .i64 y3, D.int .i64 y4, D.int .i64 y5])] := rfl
  rw [hs]
  simp only [same_cons, same_nil, same_int, Bool.and_true]
  simp [t_ref02_SameThreshold, P_ref02_SameThreshold, S_ref02_SameThreshold, K.rts, K.otyss, K.otys, CK.tyss, CK.tys, K.tyss, K.tys, Ev.call_iff, Ev.ite_iff, Ev.guard_iff, Ev.ret_iff, Ev.jump_iff, E.dens, E.denss, E.den, cmpD, arD, scmpD, ByteArray.toList_eq]
  repeat' split
  all_goals (try simp_all)
  rw [Bool.eq_iff_iff]; simp

theorem spec_ref02_SameThreshold : ∀ ds, p_ref02_SameThreshold ds → Corr Tryd.prog lay 52 k_ref02_SameThreshold ds r_ref02_SameThreshold (s_ref02_SameThreshold ds) := spec_of_ref02_SameThreshold law_ref02_SameThreshold
/- familycheck/familycheckref01.CompareInts -/
def k_ref01_CompareInts : List K := [(.one (.slc [(.int .i64)])), (.one (.slc [(.int .i64)]))]
def r_ref01_CompareInts : List K := [(.one (.int .i64))]
def b_ref01_CompareInts : List Blk := [{ st := [.code [0, 0, 0, 0, 1, 0, 1], .code [1, 0, 0, 0, 1, 0, 1], .code [1, 0, 0, 1, 0, 1], .inLoop [0, 1, 0, 1], .inBlock 0, .code [1, 1]], σ := { t := [(0, (.sc (.v 0 (.slc [(.int .i64)])))), (1, (.sc (.v 1 (.slc [(.int .i64)])))), (4, (.sc (.v 2 (.int .i64)))), (5, (.sc (.v 3 (.int .i64))))], o := [] }, tys := [(.slc [(.int .i64)]), (.slc [(.int .i64)]), (.int .i64), (.int .i64)] }]
noncomputable def c_ref01_CompareInts : Ctx := mkCtx Tryd.prog lay Tryd.f43 ⟨[], [], []⟩ k_ref01_CompareInts r_ref01_CompareInts [(2, 0)] b_ref01_CompareInts
def t_ref01_CompareInts : T :=
 (.jump 0 [(.v 0 (.slc [(.int .i64)])), (.v 1 (.slc [(.int .i64)])), (.n .i64 0), (.n .i64 0)])
def t0_ref01_CompareInts : T :=
 (.ite (.cmp .lss (.v 3 (.int .i64)) (.len (.v 0 (.slc [(.int .i64)]))))
  (.ite (.cmp .lss (.v 3 (.int .i64)) (.len (.v 1 (.slc [(.int .i64)]))))
   (.guard (.and (.cmp .geq (.v 3 (.int .i64)) (.n .i64 0)) (.cmp .lss (.v 3 (.int .i64)) (.len (.v 0 (.slc [(.int .i64)])))))
   (.guard (.and (.cmp .geq (.v 3 (.int .i64)) (.n .i64 0)) (.cmp .lss (.v 3 (.int .i64)) (.len (.v 1 (.slc [(.int .i64)])))))
   (.ite (.cmp .lss (.cell (.v 0 (.slc [(.int .i64)])) (.v 3 (.int .i64)) 0 (.int .i64)) (.cell (.v 1 (.slc [(.int .i64)])) (.v 3 (.int .i64)) 0 (.int .i64)))
    (.ret [(.n .i64 (-1))])
    (.guard (.and (.cmp .geq (.v 3 (.int .i64)) (.n .i64 0)) (.cmp .lss (.v 3 (.int .i64)) (.len (.v 0 (.slc [(.int .i64)])))))
    (.guard (.and (.cmp .geq (.v 3 (.int .i64)) (.n .i64 0)) (.cmp .lss (.v 3 (.int .i64)) (.len (.v 1 (.slc [(.int .i64)])))))
    (.ite (.cmp .gtr (.cell (.v 0 (.slc [(.int .i64)])) (.v 3 (.int .i64)) 0 (.int .i64)) (.cell (.v 1 (.slc [(.int .i64)])) (.v 3 (.int .i64)) 0 (.int .i64)))
     (.ret [(.n .i64 1)])
     (.jump 0 [(.v 0 (.slc [(.int .i64)])), (.v 1 (.slc [(.int .i64)])), (.v 2 (.int .i64)), (.ar .add .i64 (.v 3 (.int .i64)) (.n .i64 1))])))))))
   (.ite (.cmp .lss (.len (.v 0 (.slc [(.int .i64)]))) (.len (.v 1 (.slc [(.int .i64)]))))
    (.ret [(.n .i64 (-1))])
    (.ite (.cmp .gtr (.len (.v 0 (.slc [(.int .i64)]))) (.len (.v 1 (.slc [(.int .i64)]))))
     (.ret [(.n .i64 1)])
     (.ret [(.n .i64 0)]))))
  (.ite (.cmp .lss (.len (.v 0 (.slc [(.int .i64)]))) (.len (.v 1 (.slc [(.int .i64)]))))
   (.ret [(.n .i64 (-1))])
   (.ite (.cmp .gtr (.len (.v 0 (.slc [(.int .i64)]))) (.len (.v 1 (.slc [(.int .i64)]))))
    (.ret [(.n .i64 1)])
    (.ret [(.n .i64 0)]))))
def B_ref01_CompareInts : Nat → T
  | 0 => t0_ref01_CompareInts
  | _ => .dead
theorem ok_ref01_CompareInts : c_ref01_CompareInts.Ok 43 B_ref01_CompareInts := ok_of Tryd.func43 (by kernel_rfl) mixed
  (.cons (n := 100000) (by kernel_rfl) (.nil))
theorem correct_ref01_CompareInts {ds rs : List D} (h : Ev (Corr Tryd.prog lay) B_ref01_CompareInts t_ref01_CompareInts ds rs) : Corr Tryd.prog lay 43 k_ref01_CompareInts ds r_ref01_CompareInts rs :=
  correct_of ok_ref01_CompareInts (n := 100000) (t := t_ref01_CompareInts) (by kernel_rfl) (by kernel_rfl) h
noncomputable def S_ref01_CompareInts : Nat → List D → List D
  | _, _ => []
def P_ref01_CompareInts : Nat → List K → List D → List K → Prop
  | _, _, _, _ => False
theorem use_ref01_CompareInts : ∀ g ks ds rk xs, ByS P_ref01_CompareInts S_ref01_CompareInts g ks ds rk xs → Corr Tryd.prog lay g ks ds rk xs := by
  intro g ks ds rk xs h
  obtain ⟨h1, rfl⟩ := h
  unfold P_ref01_CompareInts at h1
  split at h1
  · exact h1.elim
theorem spec_of_ref01_CompareInts (law : ∀ ds, D.wts (K.tyss k_ref01_CompareInts) ds → p_ref01_CompareInts ds → Ev (ByS P_ref01_CompareInts S_ref01_CompareInts) B_ref01_CompareInts t_ref01_CompareInts ds (s_ref01_CompareInts ds)) : ∀ ds, p_ref01_CompareInts ds → Corr Tryd.prog lay 43 k_ref01_CompareInts ds r_ref01_CompareInts (s_ref01_CompareInts ds) :=
  fun ds hp => .of_wt (by decide) fun hw => correct_ref01_CompareInts ((law ds hw hp).monoC use_ref01_CompareInts)
theorem loop_ref01_CompareInts (es fs : List (List D)) (he : es.length ≤ maxLen) (_hf : fs.length ≤ maxLen) (x : D) : ∀ (m i : Nat), es.length - i = m → i ≤ es.length → i ≤ fs.length →
    Ev (ByS P_ref01_CompareInts S_ref01_CompareInts) B_ref01_CompareInts t0_ref01_CompareInts [.slc es, .slc fs, x, .int .i64 i] [.int .i64 (cmpL ((ints (.slc es)).drop i) ((ints (.slc fs)).drop i))] := by
  intro m
  induction m with
  | zero =>
    intro i hm h1 h2
    have hi : i = es.length := by omega
    simp [t0_ref01_CompareInts, Ev.ite_iff, Ev.guard_iff, Ev.ret_iff, Ev.jump_iff, E.dens, E.den, cmpD, arD, hi]
    rw [ints_nil (Nat.le_refl _)]
    split
    · rw [drop_cons (ints_get (by omega))]; rfl
    · split
      · omega
      · rw [ints_nil (by omega)]; rfl
  | succ m ih =>
    intro i hm h1 h2
    have hlt : i < es.length := by omega
    simp [t0_ref01_CompareInts, Ev.ite_iff, Ev.guard_iff, Ev.ret_iff, Ev.jump_iff, E.dens, E.den, cmpD, arD, hlt]
    rw [drop_cons (ints_get hlt)]
    split
    · rename_i hlt'
      rw [drop_cons (ints_get hlt')]
      simp only [hlt', List.getElem?_eq_getElem, Option.getD_some, true_and, cmpL]
      split
      · rfl
      · split
        · rfl
        · have hw : IntKind.i64.wrap ((i : Int) + 1) = ((i + 1 : Nat) : Int) := by rw [wrap64 (by omega) (by unfold maxLen at *; omega)]; simp
          rw [hw]
          exact ih (i + 1) (by omega) (by omega) (by omega)
    · rw [ints_nil (es := fs) (by omega)]
      split
      · omega
      · split
        · rfl
        · omega
theorem law_ref01_CompareInts (ds : List D) (hw : D.wts (K.tyss k_ref01_CompareInts) ds) (hp : p_ref01_CompareInts ds) : Ev (ByS P_ref01_CompareInts S_ref01_CompareInts) B_ref01_CompareInts t_ref01_CompareInts ds (s_ref01_CompareInts ds) := by
  obtain ⟨a0, _, rfl, ha0, a1, _, rfl, ha1, rfl⟩ := hw
  obtain ⟨es, rfl, he, _⟩ := ha0
  obtain ⟨fs, rfl, hf, _⟩ := ha1
  simp [t_ref01_CompareInts, s_ref01_CompareInts, Ev.jump_iff, E.dens, E.den]
  exact loop_ref01_CompareInts es fs he hf _ _ 0 rfl (Nat.zero_le _) (Nat.zero_le _)

theorem spec_ref01_CompareInts : ∀ ds, p_ref01_CompareInts ds → Corr Tryd.prog lay 43 k_ref01_CompareInts ds r_ref01_CompareInts (s_ref01_CompareInts ds) := spec_of_ref01_CompareInts law_ref01_CompareInts
/- familycheck/familycheckref01.SameInts -/
def k_ref01_SameInts : List K := [(.one (.slc [(.int .i64)])), (.one (.slc [(.int .i64)]))]
def r_ref01_SameInts : List K := [(.one .bool)]
def b_ref01_SameInts : List Blk := []
noncomputable def c_ref01_SameInts : Ctx := mkCtx Tryd.prog lay Tryd.f29 ⟨[(43, [(.one (.int .i64))])], [], []⟩ k_ref01_SameInts r_ref01_SameInts [] b_ref01_SameInts
def t_ref01_SameInts : T :=
 (.call 43 [(.one (.slc [(.int .i64)])), (.one (.slc [(.int .i64)]))] [(.v 0 (.slc [(.int .i64)])), (.v 1 (.slc [(.int .i64)]))] [(.one (.int .i64))]
 (.ret [(.cmp .eql (.v 2 (.int .i64)) (.n .i64 0))]))
def B_ref01_SameInts : Nat → T
  | _ => .dead
theorem ok_ref01_SameInts : c_ref01_SameInts.Ok 29 B_ref01_SameInts := ok_of Tryd.func29 (by kernel_rfl) mixed
  (.nil)
theorem correct_ref01_SameInts {ds rs : List D} (h : Ev (Corr Tryd.prog lay) B_ref01_SameInts t_ref01_SameInts ds rs) : Corr Tryd.prog lay 29 k_ref01_SameInts ds r_ref01_SameInts rs :=
  correct_of ok_ref01_SameInts (n := 100000) (t := t_ref01_SameInts) (by kernel_rfl) (by kernel_rfl) h
noncomputable def S_ref01_SameInts : Nat → List D → List D
  | 43, ds => s_ref01_CompareInts ds
  | _, _ => []
def P_ref01_SameInts : Nat → List K → List D → List K → Prop
  | 43, ks, ds, rk => ks = k_ref01_CompareInts ∧ rk = r_ref01_CompareInts ∧ p_ref01_CompareInts ds
  | _, _, _, _ => False
theorem use_ref01_SameInts : ∀ g ks ds rk xs, ByS P_ref01_SameInts S_ref01_SameInts g ks ds rk xs → Corr Tryd.prog lay g ks ds rk xs := by
  intro g ks ds rk xs h
  obtain ⟨h1, rfl⟩ := h
  unfold P_ref01_SameInts at h1
  split at h1
  · obtain ⟨rfl, rfl, h1⟩ := h1; exact spec_ref01_CompareInts ds h1
  · exact h1.elim
theorem spec_of_ref01_SameInts (law : ∀ ds, D.wts (K.tyss k_ref01_SameInts) ds → p_ref01_SameInts ds → Ev (ByS P_ref01_SameInts S_ref01_SameInts) B_ref01_SameInts t_ref01_SameInts ds (s_ref01_SameInts ds)) : ∀ ds, p_ref01_SameInts ds → Corr Tryd.prog lay 29 k_ref01_SameInts ds r_ref01_SameInts (s_ref01_SameInts ds) :=
  fun ds hp => .of_wt (by decide) fun hw => correct_ref01_SameInts ((law ds hw hp).monoC use_ref01_SameInts)
theorem law_ref01_SameInts (ds : List D) (hw : D.wts (K.tyss k_ref01_SameInts) ds) (hp : p_ref01_SameInts ds) : Ev (ByS P_ref01_SameInts S_ref01_SameInts) B_ref01_SameInts t_ref01_SameInts ds (s_ref01_SameInts ds) := by
  obtain ⟨a0, _, rfl, ha0, a1, _, rfl, ha1, rfl⟩ := hw
  obtain ⟨x0, rfl, la0, wa0⟩ := ha0
  obtain ⟨x1, rfl, la1, wa1⟩ := ha1
  simp [t_ref01_SameInts, s_ref01_SameInts, P_ref01_SameInts, S_ref01_SameInts, K.rts, K.otyss, K.otys, CK.tyss, K.tyss, K.tys, Ev.ite_iff, Ev.ret_iff, Ev.guard_iff, Ev.jump_iff, Ev.may_iff, Ev.call_iff, E.dens, E.denss, E.den, cmpD, scmpD, k_ref01_CompareInts, r_ref01_CompareInts, s_ref01_CompareInts, p_ref01_CompareInts, cmpL_beq]
  all_goals (repeat' split) <;> (try simp_all) <;> (try omega)

theorem spec_ref01_SameInts : ∀ ds, p_ref01_SameInts ds → Corr Tryd.prog lay 29 k_ref01_SameInts ds r_ref01_SameInts (s_ref01_SameInts ds) := spec_of_ref01_SameInts law_ref01_SameInts
/- familycheck/familycheckref02.SameButName -/
def k_ref02_SameButName : List K := [(.agg [.str, (.int .i64), (.int .i64), (.int .i64), (.int .i64), (.int .i64), (.slc [(.int .i64)]), (.slc [(.int .i64), (.int .i64), (.int .i64), (.int .i64), (.int .i64), (.int .i64)]), (.slc [(.int .i64)]), (.slc [(.int .i64)]), (.int .i64), (.int .i64), (.slc [(.int .i64)]), (.int .i64), (.slc [(.int .i64)]), (.slc [(.int .i64)]), (.slc [(.int .i64)]), (.int .i64)]), (.agg [.str, (.int .i64), (.int .i64), (.int .i64), (.int .i64), (.int .i64), (.slc [(.int .i64)]), (.slc [(.int .i64), (.int .i64), (.int .i64), (.int .i64), (.int .i64), (.int .i64)]), (.slc [(.int .i64)]), (.slc [(.int .i64)]), (.int .i64), (.int .i64), (.slc [(.int .i64)]), (.int .i64), (.slc [(.int .i64)]), (.slc [(.int .i64)]), (.slc [(.int .i64)]), (.int .i64)])]
def r_ref02_SameButName : List K := [(.one .bool)]
def b_ref02_SameButName : List Blk := [{ st := [.code [0, 0, 0, 0, 1, 0, 1, 1], .code [1, 0, 0, 0, 1, 0, 1, 1], .code [1, 0, 0, 1, 0, 1, 1], .inLoop [0, 1, 0, 1, 1], .inBlock 0, .code [1, 1, 1]], σ := { t := [(2, (.ptr 0 0)), (3, (.ptr 1 0)), (4, (.sc (.v 36 .bool))), (5, (.sc (.v 37 (.int .i64))))], o := [(.box 62 [(.sc (.v 0 .str)), (.sc (.v 1 (.int .i64))), (.sc (.v 2 (.int .i64))), (.sc (.v 3 (.int .i64))), (.sc (.v 4 (.int .i64))), (.sc (.v 5 (.int .i64))), (.sc (.v 6 (.slc [(.int .i64)]))), (.sc (.v 7 (.slc [(.int .i64), (.int .i64), (.int .i64), (.int .i64), (.int .i64), (.int .i64)]))), (.sc (.v 8 (.slc [(.int .i64)]))), (.sc (.v 9 (.slc [(.int .i64)]))), (.sc (.v 10 (.int .i64))), (.sc (.v 11 (.int .i64))), (.sc (.v 12 (.slc [(.int .i64)]))), (.sc (.v 13 (.int .i64))), (.sc (.v 14 (.slc [(.int .i64)]))), (.sc (.v 15 (.slc [(.int .i64)]))), (.sc (.v 16 (.slc [(.int .i64)]))), (.sc (.v 17 (.int .i64)))]), (.box 62 [(.sc (.v 18 .str)), (.sc (.v 19 (.int .i64))), (.sc (.v 20 (.int .i64))), (.sc (.v 21 (.int .i64))), (.sc (.v 22 (.int .i64))), (.sc (.v 23 (.int .i64))), (.sc (.v 24 (.slc [(.int .i64)]))), (.sc (.v 25 (.slc [(.int .i64), (.int .i64), (.int .i64), (.int .i64), (.int .i64), (.int .i64)]))), (.sc (.v 26 (.slc [(.int .i64)]))), (.sc (.v 27 (.slc [(.int .i64)]))), (.sc (.v 28 (.int .i64))), (.sc (.v 29 (.int .i64))), (.sc (.v 30 (.slc [(.int .i64)]))), (.sc (.v 31 (.int .i64))), (.sc (.v 32 (.slc [(.int .i64)]))), (.sc (.v 33 (.slc [(.int .i64)]))), (.sc (.v 34 (.slc [(.int .i64)]))), (.sc (.v 35 (.int .i64)))])] }, tys := [.str, (.int .i64), (.int .i64), (.int .i64), (.int .i64), (.int .i64), (.slc [(.int .i64)]), (.slc [(.int .i64), (.int .i64), (.int .i64), (.int .i64), (.int .i64), (.int .i64)]), (.slc [(.int .i64)]), (.slc [(.int .i64)]), (.int .i64), (.int .i64), (.slc [(.int .i64)]), (.int .i64), (.slc [(.int .i64)]), (.slc [(.int .i64)]), (.slc [(.int .i64)]), (.int .i64), .str, (.int .i64), (.int .i64), (.int .i64), (.int .i64), (.int .i64), (.slc [(.int .i64)]), (.slc [(.int .i64), (.int .i64), (.int .i64), (.int .i64), (.int .i64), (.int .i64)]), (.slc [(.int .i64)]), (.slc [(.int .i64)]), (.int .i64), (.int .i64), (.slc [(.int .i64)]), (.int .i64), (.slc [(.int .i64)]), (.slc [(.int .i64)]), (.slc [(.int .i64)]), (.int .i64), .bool, (.int .i64)] }]
noncomputable def c_ref02_SameButName : Ctx := mkCtx Tryd.prog lay Tryd.f37 ⟨[(29, [(.one .bool)]), (52, [(.one .bool)])], [], []⟩ k_ref02_SameButName r_ref02_SameButName [(4, 0)] b_ref02_SameButName
def t_ref02_SameButName : T :=
 (.ite (.cmp .neq (.len (.v 7 (.slc [(.int .i64), (.int .i64), (.int .i64), (.int .i64), (.int .i64), (.int .i64)]))) (.len (.v 25 (.slc [(.int .i64), (.int .i64), (.int .i64), (.int .i64), (.int .i64), (.int .i64)]))))
  (.ret [(.b false)])
  (.jump 0 [(.v 0 .str), (.v 1 (.int .i64)), (.v 2 (.int .i64)), (.v 3 (.int .i64)), (.v 4 (.int .i64)), (.v 5 (.int .i64)), (.v 6 (.slc [(.int .i64)])), (.v 7 (.slc [(.int .i64), (.int .i64), (.int .i64), (.int .i64), (.int .i64), (.int .i64)])), (.v 8 (.slc [(.int .i64)])), (.v 9 (.slc [(.int .i64)])), (.v 10 (.int .i64)), (.v 11 (.int .i64)), (.v 12 (.slc [(.int .i64)])), (.v 13 (.int .i64)), (.v 14 (.slc [(.int .i64)])), (.v 15 (.slc [(.int .i64)])), (.v 16 (.slc [(.int .i64)])), (.v 17 (.int .i64)), (.v 18 .str), (.v 19 (.int .i64)), (.v 20 (.int .i64)), (.v 21 (.int .i64)), (.v 22 (.int .i64)), (.v 23 (.int .i64)), (.v 24 (.slc [(.int .i64)])), (.v 25 (.slc [(.int .i64), (.int .i64), (.int .i64), (.int .i64), (.int .i64), (.int .i64)])), (.v 26 (.slc [(.int .i64)])), (.v 27 (.slc [(.int .i64)])), (.v 28 (.int .i64)), (.v 29 (.int .i64)), (.v 30 (.slc [(.int .i64)])), (.v 31 (.int .i64)), (.v 32 (.slc [(.int .i64)])), (.v 33 (.slc [(.int .i64)])), (.v 34 (.slc [(.int .i64)])), (.v 35 (.int .i64)), (.b false), (.n .i64 0)]))
def t0_ref02_SameButName : T :=
 (.ite (.cmp .lss (.v 37 (.int .i64)) (.len (.v 7 (.slc [(.int .i64), (.int .i64), (.int .i64), (.int .i64), (.int .i64), (.int .i64)]))))
  (.guard (.and (.cmp .geq (.v 37 (.int .i64)) (.n .i64 0)) (.cmp .lss (.v 37 (.int .i64)) (.len (.v 7 (.slc [(.int .i64), (.int .i64), (.int .i64), (.int .i64), (.int .i64), (.int .i64)])))))
  (.guard (.and (.cmp .geq (.v 37 (.int .i64)) (.n .i64 0)) (.cmp .lss (.v 37 (.int .i64)) (.len (.v 25 (.slc [(.int .i64), (.int .i64), (.int .i64), (.int .i64), (.int .i64), (.int .i64)])))))
  (.call 52 [(.agg [(.int .i64), (.int .i64), (.int .i64), (.int .i64), (.int .i64), (.int .i64)]), (.agg [(.int .i64), (.int .i64), (.int .i64), (.int .i64), (.int .i64), (.int .i64)])] [(.cell (.v 7 (.slc [(.int .i64), (.int .i64), (.int .i64), (.int .i64), (.int .i64), (.int .i64)])) (.v 37 (.int .i64)) 0 (.int .i64)), (.cell (.v 7 (.slc [(.int .i64), (.int .i64), (.int .i64), (.int .i64), (.int .i64), (.int .i64)])) (.v 37 (.int .i64)) 1 (.int .i64)), (.cell (.v 7 (.slc [(.int .i64), (.int .i64), (.int .i64), (.int .i64), (.int .i64), (.int .i64)])) (.v 37 (.int .i64)) 2 (.int .i64)), (.cell (.v 7 (.slc [(.int .i64), (.int .i64), (.int .i64), (.int .i64), (.int .i64), (.int .i64)])) (.v 37 (.int .i64)) 3 (.int .i64)), (.cell (.v 7 (.slc [(.int .i64), (.int .i64), (.int .i64), (.int .i64), (.int .i64), (.int .i64)])) (.v 37 (.int .i64)) 4 (.int .i64)), (.cell (.v 7 (.slc [(.int .i64), (.int .i64), (.int .i64), (.int .i64), (.int .i64), (.int .i64)])) (.v 37 (.int .i64)) 5 (.int .i64)), (.cell (.v 25 (.slc [(.int .i64), (.int .i64), (.int .i64), (.int .i64), (.int .i64), (.int .i64)])) (.v 37 (.int .i64)) 0 (.int .i64)), (.cell (.v 25 (.slc [(.int .i64), (.int .i64), (.int .i64), (.int .i64), (.int .i64), (.int .i64)])) (.v 37 (.int .i64)) 1 (.int .i64)), (.cell (.v 25 (.slc [(.int .i64), (.int .i64), (.int .i64), (.int .i64), (.int .i64), (.int .i64)])) (.v 37 (.int .i64)) 2 (.int .i64)), (.cell (.v 25 (.slc [(.int .i64), (.int .i64), (.int .i64), (.int .i64), (.int .i64), (.int .i64)])) (.v 37 (.int .i64)) 3 (.int .i64)), (.cell (.v 25 (.slc [(.int .i64), (.int .i64), (.int .i64), (.int .i64), (.int .i64), (.int .i64)])) (.v 37 (.int .i64)) 4 (.int .i64)), (.cell (.v 25 (.slc [(.int .i64), (.int .i64), (.int .i64), (.int .i64), (.int .i64), (.int .i64)])) (.v 37 (.int .i64)) 5 (.int .i64))] [(.one .bool)]
  (.ite (.not (.v 38 .bool))
   (.ret [(.b false)])
   (.jump 0 [(.v 0 .str), (.v 1 (.int .i64)), (.v 2 (.int .i64)), (.v 3 (.int .i64)), (.v 4 (.int .i64)), (.v 5 (.int .i64)), (.v 6 (.slc [(.int .i64)])), (.v 7 (.slc [(.int .i64), (.int .i64), (.int .i64), (.int .i64), (.int .i64), (.int .i64)])), (.v 8 (.slc [(.int .i64)])), (.v 9 (.slc [(.int .i64)])), (.v 10 (.int .i64)), (.v 11 (.int .i64)), (.v 12 (.slc [(.int .i64)])), (.v 13 (.int .i64)), (.v 14 (.slc [(.int .i64)])), (.v 15 (.slc [(.int .i64)])), (.v 16 (.slc [(.int .i64)])), (.v 17 (.int .i64)), (.v 18 .str), (.v 19 (.int .i64)), (.v 20 (.int .i64)), (.v 21 (.int .i64)), (.v 22 (.int .i64)), (.v 23 (.int .i64)), (.v 24 (.slc [(.int .i64)])), (.v 25 (.slc [(.int .i64), (.int .i64), (.int .i64), (.int .i64), (.int .i64), (.int .i64)])), (.v 26 (.slc [(.int .i64)])), (.v 27 (.slc [(.int .i64)])), (.v 28 (.int .i64)), (.v 29 (.int .i64)), (.v 30 (.slc [(.int .i64)])), (.v 31 (.int .i64)), (.v 32 (.slc [(.int .i64)])), (.v 33 (.slc [(.int .i64)])), (.v 34 (.slc [(.int .i64)])), (.v 35 (.int .i64)), (.v 36 .bool), (.ar .add .i64 (.v 37 (.int .i64)) (.n .i64 1))])))))
  (.call 29 [(.one (.slc [(.int .i64)])), (.one (.slc [(.int .i64)]))] [(.lit [(.int .i64)] [[(.v 1 (.int .i64))], [(.v 2 (.int .i64))], [(.v 3 (.int .i64))], [(.v 4 (.int .i64))], [(.v 5 (.int .i64))], [(.v 10 (.int .i64))], [(.v 11 (.int .i64))], [(.v 13 (.int .i64))], [(.v 17 (.int .i64))]]), (.lit [(.int .i64)] [[(.v 19 (.int .i64))], [(.v 20 (.int .i64))], [(.v 21 (.int .i64))], [(.v 22 (.int .i64))], [(.v 23 (.int .i64))], [(.v 28 (.int .i64))], [(.v 29 (.int .i64))], [(.v 31 (.int .i64))], [(.v 35 (.int .i64))]])] [(.one .bool)]
  (.ite (.v 38 .bool)
   (.call 29 [(.one (.slc [(.int .i64)])), (.one (.slc [(.int .i64)]))] [(.v 6 (.slc [(.int .i64)])), (.v 24 (.slc [(.int .i64)]))] [(.one .bool)]
   (.ite (.v 39 .bool)
    (.call 29 [(.one (.slc [(.int .i64)])), (.one (.slc [(.int .i64)]))] [(.v 8 (.slc [(.int .i64)])), (.v 26 (.slc [(.int .i64)]))] [(.one .bool)]
    (.ite (.v 40 .bool)
     (.call 29 [(.one (.slc [(.int .i64)])), (.one (.slc [(.int .i64)]))] [(.v 9 (.slc [(.int .i64)])), (.v 27 (.slc [(.int .i64)]))] [(.one .bool)]
     (.ite (.v 41 .bool)
      (.call 29 [(.one (.slc [(.int .i64)])), (.one (.slc [(.int .i64)]))] [(.v 12 (.slc [(.int .i64)])), (.v 30 (.slc [(.int .i64)]))] [(.one .bool)]
      (.ite (.v 42 .bool)
       (.call 29 [(.one (.slc [(.int .i64)])), (.one (.slc [(.int .i64)]))] [(.v 14 (.slc [(.int .i64)])), (.v 32 (.slc [(.int .i64)]))] [(.one .bool)]
       (.ite (.v 43 .bool)
        (.call 29 [(.one (.slc [(.int .i64)])), (.one (.slc [(.int .i64)]))] [(.v 15 (.slc [(.int .i64)])), (.v 33 (.slc [(.int .i64)]))] [(.one .bool)]
        (.ite (.v 44 .bool)
         (.call 29 [(.one (.slc [(.int .i64)])), (.one (.slc [(.int .i64)]))] [(.v 16 (.slc [(.int .i64)])), (.v 34 (.slc [(.int .i64)]))] [(.one .bool)]
         (.ret [(.v 45 .bool)]))
         (.ret [(.b false)])))
        (.ret [(.b false)])))
       (.ret [(.b false)])))
      (.ret [(.b false)])))
     (.ret [(.b false)])))
    (.ret [(.b false)])))
   (.ret [(.b false)]))))
def B_ref02_SameButName : Nat → T
  | 0 => t0_ref02_SameButName
  | _ => .dead
theorem ok_ref02_SameButName : c_ref02_SameButName.Ok 37 B_ref02_SameButName := ok_of Tryd.func37 (by kernel_rfl) mixed
  (.cons (n := 100000) (by kernel_rfl) (.nil))
theorem correct_ref02_SameButName {ds rs : List D} (h : Ev (Corr Tryd.prog lay) B_ref02_SameButName t_ref02_SameButName ds rs) : Corr Tryd.prog lay 37 k_ref02_SameButName ds r_ref02_SameButName rs :=
  correct_of ok_ref02_SameButName (n := 100000) (t := t_ref02_SameButName) (by kernel_rfl) (by kernel_rfl) h
noncomputable def S_ref02_SameButName : Nat → List D → List D
  | 52, ds => s_ref02_SameThreshold ds
  | 29, ds => s_ref01_SameInts ds
  | _, _ => []
def P_ref02_SameButName : Nat → List K → List D → List K → Prop
  | 52, ks, ds, rk => ks = k_ref02_SameThreshold ∧ rk = r_ref02_SameThreshold ∧ p_ref02_SameThreshold ds
  | 29, ks, ds, rk => ks = k_ref01_SameInts ∧ rk = r_ref01_SameInts ∧ p_ref01_SameInts ds
  | _, _, _, _ => False
theorem use_ref02_SameButName : ∀ g ks ds rk xs, ByS P_ref02_SameButName S_ref02_SameButName g ks ds rk xs → Corr Tryd.prog lay g ks ds rk xs := by
  intro g ks ds rk xs h
  obtain ⟨h1, rfl⟩ := h
  unfold P_ref02_SameButName at h1
  split at h1
  · obtain ⟨rfl, rfl, h1⟩ := h1; exact spec_ref02_SameThreshold ds h1
  · obtain ⟨rfl, rfl, h1⟩ := h1; exact spec_ref01_SameInts ds h1
  · exact h1.elim
theorem spec_of_ref02_SameButName (law : ∀ ds, D.wts (K.tyss k_ref02_SameButName) ds → p_ref02_SameButName ds → Ev (ByS P_ref02_SameButName S_ref02_SameButName) B_ref02_SameButName t_ref02_SameButName ds (s_ref02_SameButName ds)) : ∀ ds, p_ref02_SameButName ds → Corr Tryd.prog lay 37 k_ref02_SameButName ds r_ref02_SameButName (s_ref02_SameButName ds) :=
  fun ds hp => .of_wt (by decide) fun hw => correct_ref02_SameButName ((law ds hw hp).monoC use_ref02_SameButName)
def restSame (ls ms : List D) : Bool := decide (ints (.slc [[nth ls 1], [nth ls 2], [nth ls 3], [nth ls 4], [nth ls 5], [nth ls 10], [nth ls 11], [nth ls 13], [nth ls 17]]) = ints (.slc [[nth ms 1], [nth ms 2], [nth ms 3], [nth ms 4], [nth ms 5], [nth ms 10], [nth ms 11], [nth ms 13], [nth ms 17]])) && (decide (ints (nth ls 6) = ints (nth ms 6)) && (decide (ints (nth ls 8) = ints (nth ms 8)) && (decide (ints (nth ls 9) = ints (nth ms 9)) && (decide (ints (nth ls 12) = ints (nth ms 12)) && (decide (ints (nth ls 14) = ints (nth ms 14)) && (decide (ints (nth ls 15) = ints (nth ms 15)) && (decide (ints (nth ls 16) = ints (nth ms 16)))))))))
theorem loop_ref02_SameButName (es fs : List (List D)) (hl : es.length = fs.length) (he : es.length ≤ maxLen) (hes : ∀ c ∈ es, D.wts [.int .i64, .int .i64, .int .i64, .int .i64, .int .i64, .int .i64] c) (hfs : ∀ c ∈ fs, D.wts [.int .i64, .int .i64, .int .i64, .int .i64, .int .i64, .int .i64] c) (a0 a1 a2 a3 a4 a5 a6 a8 a9 a10 a11 a12 a13 a14 a15 a16 a17 b0 b1 b2 b3 b4 b5 b6 b8 b9 b10 b11 b12 b13 b14 b15 b16 b17 st : D) : ∀ (m i : Nat), es.length - i = m → i ≤ es.length →
    Ev (ByS P_ref02_SameButName S_ref02_SameButName) B_ref02_SameButName (B_ref02_SameButName 0) [a0, a1, a2, a3, a4, a5, a6, .slc es, a8, a9, a10, a11, a12, a13, a14, a15, a16, a17, b0, b1, b2, b3, b4, b5, b6, .slc fs, b8, b9, b10, b11, b12, b13, b14, b15, b16, b17, st, .int .i64 i] [.bool (same (es.drop i) (fs.drop i) && restSame [a0, a1, a2, a3, a4, a5, a6, .slc es, a8, a9, a10, a11, a12, a13, a14, a15, a16, a17] [b0, b1, b2, b3, b4, b5, b6, .slc fs, b8, b9, b10, b11, b12, b13, b14, b15, b16, b17])] := by
  intro m
  induction m with
  | zero =>
    intro i hm h1
    have hi : ¬ (i < es.length) := by omega
    rw [List.drop_eq_nil_iff.2 (by omega), List.drop_eq_nil_iff.2 (by omega), same_nil, Bool.true_and]
    show Ev _ _ t0_ref02_SameButName _ _
    simp [t0_ref02_SameButName, P_ref02_SameButName, S_ref02_SameButName, k_ref01_SameInts, r_ref01_SameInts, s_ref01_SameInts, p_ref01_SameInts, K.rts, K.otyss, K.otys, CK.tyss, CK.tys, K.tyss, K.tys, Ev.call_iff, Ev.ite_iff, Ev.guard_iff, Ev.ret_iff, Ev.jump_iff, E.dens, E.denss, E.den, cmpD, arD, scmpD, ByteArray.toList_eq, hi, restSame]
    repeat' split
    all_goals simp_all
  | succ m ih =>
    intro i hm h1
    have hlt : i < es.length := by omega
    have hlt2 : i < fs.length := by omega
    have hw : IntKind.i64.wrap ((i : Int) + 1) = (i : Int) + 1 := by rw [wrap64 (by omega) (by unfold maxLen at *; omega)]
    have hnext := ih (i + 1) (by omega) (by omega)
    rw [Int.natCast_add, Int.natCast_one] at hnext
    generalize restSame [a0, a1, a2, a3, a4, a5, a6, .slc es, a8, a9, a10, a11, a12, a13, a14, a15, a16, a17] [b0, b1, b2, b3, b4, b5, b6, .slc fs, b8, b9, b10, b11, b12, b13, b14, b15, b16, b17] = rest at *
    rw [List.drop_eq_getElem_cons hlt, List.drop_eq_getElem_cons hlt2, same_cons]
    obtain ⟨x_0_, _, ha, ⟨x0, rfl⟩, x_1_, _, rfl, ⟨x1, rfl⟩, x_2_, _, rfl, ⟨x2, rfl⟩, x_3_, _, rfl, ⟨x3, rfl⟩, x_4_, _, rfl, ⟨x4, rfl⟩, x_5_, _, rfl, ⟨x5, rfl⟩, rfl⟩ := hes es[i] (List.getElem_mem hlt)
    obtain ⟨y_0_, _, hb, ⟨y0, rfl⟩, y_1_, _, rfl, ⟨y1, rfl⟩, y_2_, _, rfl, ⟨y2, rfl⟩, y_3_, _, rfl, ⟨y3, rfl⟩, y_4_, _, rfl, ⟨y4, rfl⟩, y_5_, _, rfl, ⟨y5, rfl⟩, rfl⟩ := hfs fs[i] (List.getElem_mem hlt2)
    have hr : s_ref02_SameThreshold [.int .i64 x0, .int .i64 x1, .int .i64 x2, .int .i64 x3, .int .i64 x4, .int .i64 x5, .int .i64 y0, .int .i64 y1, .int .i64 y2, .int .i64 y3, .int .i64 y4, .int .i64 y5] = [.bool (same es[i] fs[i])] := by rw [ha, hb]; rfl
    show Ev _ _ t0_ref02_SameButName _ _
    by_cases hc : same es[i] fs[i] = true
    · rw [hc, Bool.true_and]
      simp [t0_ref02_SameButName, P_ref02_SameButName, S_ref02_SameButName, k_ref02_SameThreshold, r_ref02_SameThreshold, p_ref02_SameThreshold, K.rts, K.otyss, K.otys, CK.tyss, CK.tys, K.tyss, K.tys, Ev.call_iff, Ev.ite_iff, Ev.guard_iff, Ev.ret_iff, Ev.jump_iff, E.dens, E.denss, E.den, cmpD, arD, scmpD, ByteArray.toList_eq, hlt, hlt2, hw, ha, hb, hr]
      rw [ha, hb] at hc
      simp [hc]
      exact hnext
    · rw [Bool.not_eq_true] at hc
      rw [hc, Bool.false_and, Bool.false_and]
      simp [t0_ref02_SameButName, P_ref02_SameButName, S_ref02_SameButName, k_ref02_SameThreshold, r_ref02_SameThreshold, p_ref02_SameThreshold, K.rts, K.otyss, K.otys, CK.tyss, CK.tys, K.tyss, K.tys, Ev.call_iff, Ev.ite_iff, Ev.guard_iff, Ev.ret_iff, Ev.jump_iff, E.dens, E.denss, E.den, cmpD, arD, scmpD, ByteArray.toList_eq, hlt, hlt2, hw, ha, hb, hr]
      rw [ha, hb] at hc
      simp [hc]
theorem law_ref02_SameButName (ds : List D) (hw : D.wts (K.tyss k_ref02_SameButName) ds) (hp : p_ref02_SameButName ds) : Ev (ByS P_ref02_SameButName S_ref02_SameButName) B_ref02_SameButName t_ref02_SameButName ds (s_ref02_SameButName ds) := by
  obtain ⟨a0_, _, rfl, ⟨x0, rfl⟩, a1_, _, rfl, ⟨x1, rfl⟩, a2_, _, rfl, ⟨x2, rfl⟩, a3_, _, rfl, ⟨x3, rfl⟩, a4_, _, rfl, ⟨x4, rfl⟩, a5_, _, rfl, ⟨x5, rfl⟩, a6_, _, rfl, wa6, a7_, _, rfl, wa7, a8_, _, rfl, wa8, a9_, _, rfl, wa9, a10_, _, rfl, ⟨x10, rfl⟩, a11_, _, rfl, ⟨x11, rfl⟩, a12_, _, rfl, wa12, a13_, _, rfl, ⟨x13, rfl⟩, a14_, _, rfl, wa14, a15_, _, rfl, wa15, a16_, _, rfl, wa16, a17_, _, rfl, ⟨x17, rfl⟩, b0_, _, rfl, ⟨y0, rfl⟩, b1_, _, rfl, ⟨y1, rfl⟩, b2_, _, rfl, ⟨y2, rfl⟩, b3_, _, rfl, ⟨y3, rfl⟩, b4_, _, rfl, ⟨y4, rfl⟩, b5_, _, rfl, ⟨y5, rfl⟩, b6_, _, rfl, wb6, b7_, _, rfl, wb7, b8_, _, rfl, wb8, b9_, _, rfl, wb9, b10_, _, rfl, ⟨y10, rfl⟩, b11_, _, rfl, ⟨y11, rfl⟩, b12_, _, rfl, wb12, b13_, _, rfl, ⟨y13, rfl⟩, b14_, _, rfl, wb14, b15_, _, rfl, wb15, b16_, _, rfl, wb16, b17_, _, rfl, ⟨y17, rfl⟩, rfl⟩ := hw
  have si6 := same_ints wa6 wb6
  have si8 := same_ints wa8 wb8
  have si9 := same_ints wa9 wb9
  have si12 := same_ints wa12 wb12
  have si14 := same_ints wa14 wb14
  have si15 := same_ints wa15 wb15
  have si16 := same_ints wa16 wb16
  obtain ⟨es, rfl, he, hes⟩ := wa7
  obtain ⟨fs, rfl, hf, hfs⟩ := wb7
  have hs : s_ref02_SameButName [D.str x0, D.int .i64 x1, D.int .i64 x2, D.int .i64 x3, D.int .i64 x4, D.int .i64 x5, a6_, D.slc es, a8_, a9_, D.int .i64 x10, D.int .i64 x11, a12_, D.int .i64 x13, a14_, a15_, a16_, D.int .i64 x17, D.str y0, D.int .i64 y1, D.int .i64 y2, D.int .i64 y3, D.int .i64 y4, D.int .i64 y5, b6_, D.slc fs, b8_, b9_, D.int .i64 y10, D.int .i64 y11, b12_, D.int .i64 y13, b14_, b15_, b16_, D.int .i64 y17] = [.bool (same [D.int .i64 x1, D.int .i64 x2, D.int .i64 x3, D.int .i64 x4, D.int .i64 x5, a6_, D.slc es, a8_, a9_, D.int .i64 x10, D.int .i64 x11, a12_, D.int .i64 x13, a14_, a15_, a16_, D.int .i64 x17] [D.int .i64 y1, D.int .i64 y2, D.int .i64 y3, D.int .i64 y4, D.int .i64 y5, b6_, D.slc fs, b8_, b9_, D.int .i64 y10, D.int .i64 y11, b12_, D.int .i64 y13, b14_, b15_, b16_, D.int .i64 y17])] := rfl
  have hrest : same [D.int .i64 x1, D.int .i64 x2, D.int .i64 x3, D.int .i64 x4, D.int .i64 x5, a6_, D.slc es, a8_, a9_, D.int .i64 x10, D.int .i64 x11, a12_, D.int .i64 x13, a14_, a15_, a16_, D.int .i64 x17] [D.int .i64 y1, D.int .i64 y2, D.int .i64 y3, D.int .i64 y4, D.int .i64 y5, b6_, D.slc fs, b8_, b9_, D.int .i64 y10, D.int .i64 y11, b12_, D.int .i64 y13, b14_, b15_, b16_, D.int .i64 y17] = (same es fs && restSame [D.str x0, D.int .i64 x1, D.int .i64 x2, D.int .i64 x3, D.int .i64 x4, D.int .i64 x5, a6_, D.slc es, a8_, a9_, D.int .i64 x10, D.int .i64 x11, a12_, D.int .i64 x13, a14_, a15_, a16_, D.int .i64 x17] [D.str y0, D.int .i64 y1, D.int .i64 y2, D.int .i64 y3, D.int .i64 y4, D.int .i64 y5, b6_, D.slc fs, b8_, b9_, D.int .i64 y10, D.int .i64 y11, b12_, D.int .i64 y13, b14_, b15_, b16_, D.int .i64 y17]) := by
    simp only [same_cons, same_nil, same_int, same_slc, Bool.and_true, restSame, nth, List.getD_cons_zero, List.getD_cons_succ, si6, si8, si9, si12, si14, si15, si16]
    have hints : ints (.slc [[D.int .i64 x1], [D.int .i64 x2], [D.int .i64 x3], [D.int .i64 x4], [D.int .i64 x5], [D.int .i64 x10], [D.int .i64 x11], [D.int .i64 x13], [D.int .i64 x17]]) = ints (.slc [[D.int .i64 y1], [D.int .i64 y2], [D.int .i64 y3], [D.int .i64 y4], [D.int .i64 y5], [D.int .i64 y10], [D.int .i64 y11], [D.int .i64 y13], [D.int .i64 y17]]) ↔ (x1 = y1 ∧ x2 = y2 ∧ x3 = y3 ∧ x4 = y4 ∧ x5 = y5 ∧ x10 = y10 ∧ x11 = y11 ∧ x13 = y13 ∧ x17 = y17) := by simp [ints]
    rw [Bool.eq_iff_iff]
    simp only [Bool.and_eq_true, decide_eq_true_eq, hints]
    constructor
    · intro h; simp only [h, and_self]
    · intro h; simp only [h, and_self]
  rw [hs, hrest]
  by_cases hl : es.length = fs.length
  · have loop := loop_ref02_SameButName es fs hl he hes hfs (D.str x0) (D.int .i64 x1) (D.int .i64 x2) (D.int .i64 x3) (D.int .i64 x4) (D.int .i64 x5) (a6_) (a8_) (a9_) (D.int .i64 x10) (D.int .i64 x11) (a12_) (D.int .i64 x13) (a14_) (a15_) (a16_) (D.int .i64 x17) (D.str y0) (D.int .i64 y1) (D.int .i64 y2) (D.int .i64 y3) (D.int .i64 y4) (D.int .i64 y5) (b6_) (b8_) (b9_) (D.int .i64 y10) (D.int .i64 y11) (b12_) (D.int .i64 y13) (b14_) (b15_) (b16_) (D.int .i64 y17) (.bool false) _ 0 rfl (Nat.zero_le _)
    rw [List.drop_zero, List.drop_zero] at loop
    generalize restSame [D.str x0, D.int .i64 x1, D.int .i64 x2, D.int .i64 x3, D.int .i64 x4, D.int .i64 x5, a6_, D.slc es, a8_, a9_, D.int .i64 x10, D.int .i64 x11, a12_, D.int .i64 x13, a14_, a15_, a16_, D.int .i64 x17] [D.str y0, D.int .i64 y1, D.int .i64 y2, D.int .i64 y3, D.int .i64 y4, D.int .i64 y5, b6_, D.slc fs, b8_, b9_, D.int .i64 y10, D.int .i64 y11, b12_, D.int .i64 y13, b14_, b15_, b16_, D.int .i64 y17] = rest at *
    simp [t_ref02_SameButName, Ev.ite_iff, Ev.ret_iff, Ev.jump_iff, E.dens, E.den, cmpD, hl]
    exact loop
  · have hl' : ¬ ((es.length : Int) = fs.length) := by omega
    have hne : same es fs = false := same_ne (fun h => hl (by rw [h]))
    rw [hne, Bool.false_and]
    simp [t_ref02_SameButName, Ev.ite_iff, Ev.ret_iff, Ev.jump_iff, E.dens, E.den, cmpD, hl, hl']

theorem spec_ref02_SameButName : ∀ ds, p_ref02_SameButName ds → Corr Tryd.prog lay 37 k_ref02_SameButName ds r_ref02_SameButName (s_ref02_SameButName ds) := spec_of_ref02_SameButName law_ref02_SameButName
end Fw.SA
