import Derived.Test.YtbikkfomnbmkpaaDoorFwW
import Derived.Test.YtbikkfomnbmkpaaDoorTrydShelfP
import Derived.Lib.Builder
import Derived.Lib.UnsafeStr
import Derived.Laws.Externs
import Derived.Shelf.RegionOpenPlain
import Derived.WalkKit
set_option linter.unusedSimpArgs false
namespace Fw.SA
open Go Fw Go.RowKit Go.Proofs
theorem mixed : Tryd.prog.follows .mixedOrders = true := by kernel_rfl
noncomputable def lay : Lay := layOf Tryd.prog tables
/- What copyCheck does to the machine. -/
open Go.Proofs
set_option maxHeartbeats 1000000 in
set_option maxRecDepth 100000 in
theorem copyCheck_used (b : Nat) (w : World) (h0 : w.cell? ⟨b, 0, none⟩ = some (.pointer (some ⟨b, 0, none⟩))) :
    Calls Tryd.prog 54 #[.pointer (some ⟨b, 0, none⟩)] w fun e w' => e = .returned (.tuple #[]) ∧ w' = w := by
  obtain ⟨j, hj, _⟩ := Option.map_eq_some_iff.1 (show (Tryd.prog.info? 76).map (·.size) = some 2 by kernel_rfl)
  go_enter Tryd.func54, Tryd.ntmps54
  go_wp2
  rw [Lib.run_neq_ptr_same w _ Tryd.underlying73 hj]
  go_wp2
  go_end0
  exact ⟨rfl, rfl⟩
set_option maxHeartbeats 1000000 in
set_option maxRecDepth 100000 in
theorem copyCheck_fresh (b : Nat) (w : World) (h0 : w.cell? ⟨b, 0, none⟩ = some (.pointer none)) (hsh : w.shape? b = some (76, 2)) (hfz : w.frozen? ⟨b, 0, none⟩ = false) :
    Calls Tryd.prog 54 #[.pointer (some ⟨b, 0, none⟩)] w fun e w' => e = .returned (.tuple #[]) ∧ w' = w.setCell ⟨b, 0, none⟩ (.pointer (some ⟨b, 0, none⟩)) := by
  obtain ⟨j, hj, hjs⟩ := Option.map_eq_some_iff.1 (show (Tryd.prog.info? 76).map (·.size) = some 2 by kernel_rfl)
  go_enter Tryd.func54, Tryd.ntmps54
  go_wp2
  rw [Lib.run_to_unsafe w ⟨b, 0, none⟩ Tryd.underlying73 Tryd.underlying94 hj (by rw [hjs]; decide) hsh (Nat.zero_lt_succ 1)]
  simp only [Result.andThen]
  rw [Oper.upon_value]
  go_wp2
  rw [run_callFunc_extern Tryd.func59 (by kernel_rfl) (by kernel_rfl) (by kernel_rfl) (e := Extern.AbiNoEscape.same) (by kernel_rfl)]
  rw [Lib.run_noEscape]
  simp only [Result.andThen]
  rw [Oper.upon_value]
  go_wp2
  rw [Lib.run_from_unsafe w ⟨b, 0, none⟩ Tryd.underlying94 Tryd.underlying73 hj hsh (by kernel_rfl)]
  simp only [Result.andThen]
  rw [Oper.upon_value]
  go_wp2
  go_end0
  exact ⟨rfl, rfl⟩
set_option maxHeartbeats 2000000 in
set_option maxRecDepth 100000 in
theorem string_run (b g cap : Nat) (p : Value) (l : List UInt8) (cur : Array Value) (fz : Nat × Nat) (w : World) (hbk : w.heap[b]? = some (.cells #[p, .slice (some ⟨g, 0, none⟩) l.length cap] 76 (0, 0)))
    (hg : w.heap[g]? = some (.cells cur 5 fz)) (h0 : l ≠ []) (hcap : l.length ≤ cap) (hmax : cap ≤ maxLen) (hcs : cur.size = cap) (hcells : ∀ (j : Nat) x, l[j]? = some x → w.cell? ((⟨g, 0, none⟩ : Addr).add j) = some (.int .u8 x.toNat)) :
    Calls Tryd.prog 49 #[.pointer (some ⟨b, 0, none⟩)] w fun e w' => e = .returned (.string ⟨l.toArray⟩) ∧ w' = w.drew.freeze ⟨g, 0, none⟩ l.length := by
  have hl0 : l.length ≠ 0 := by simpa using h0
  have c1 : w.drew.cell? ⟨b, 1, none⟩ = some (.slice (some ⟨g, 0, none⟩) l.length cap) := by
    have : w.drew.heap[b]? = some (.cells #[p, .slice (some ⟨g, 0, none⟩) l.length cap] 76 (0, 0)) := hbk
    rw [Lib.cell_of_heap this]; rfl
  have hSD : (Builtin.unsafeSliceData_ #[74] 90 #[.slice (some ⟨g, 0, none⟩) l.length cap]).run Tryd.prog w.drew = .ok (.pointer (some ⟨g, 0, none⟩)) w.drew :=
    Lib.run_unsafeSliceData_row _ _ _ _ _ _ (by omega)
  have hUS : (Builtin.unsafeString_ #[90, 3] 9 #[.pointer (some ⟨g, 0, none⟩), .int .i64 l.length]).run Tryd.prog w.drew = .ok (.string ⟨l.toArray⟩) (w.drew.freeze ⟨g, 0, none⟩ l.length) := by
    refine Lib.run_unsafeString_row w.drew 90 3 9 5 Tryd.underlying90 (by kernel_rfl) g cur.size (by have hg' : w.drew.heap[g]? = some (.cells cur 5 fz) := hg; simp [World.shape?, hg']) l h0 (by omega) (by unfold maxLen at hmax; omega) ?_
    exact fun j x hx => hcells j x hx
  have mixed : Tryd.prog.follows .mixedOrders = true := by kernel_rfl
  go_enter Tryd.func49, Tryd.ntmps49
  go_wp2
  go_region_o
  all_goals (go_wp2; go_ret; exact ⟨rfl, rfl⟩)
/- familycheck/protocol.factor -/
def k_protocol_factor : List K := [(.one (.int .i64))]
def r_protocol_factor : List K := [(.one .bool)]
def b_protocol_factor : List Blk := []
noncomputable def c_protocol_factor : Ctx := mkCtx Tryd.prog lay Tryd.f44 ⟨[], [], []⟩ k_protocol_factor r_protocol_factor [] b_protocol_factor
def t_protocol_factor : T :=
 (.ite (.cmp .geq (.v 0 (.int .i64)) (.n .i64 (-100)))
  (.ret [(.cmp .leq (.v 0 (.int .i64)) (.n .i64 100))])
  (.ret [(.b false)]))
def B_protocol_factor : Nat → T
  | _ => .dead
theorem ok_protocol_factor : c_protocol_factor.Ok 44 B_protocol_factor := ok_of Tryd.func44 (by kernel_rfl) mixed
  (.nil)
theorem correct_protocol_factor {ds rs : List D} (h : Ev (Corr Tryd.prog lay) B_protocol_factor t_protocol_factor ds rs) : Corr Tryd.prog lay 44 k_protocol_factor ds r_protocol_factor rs :=
  correct_of ok_protocol_factor (n := 100000) (t := t_protocol_factor) (by kernel_rfl) (by kernel_rfl) h
def S_protocol_factor : Nat → List D → List D
  | _, _ => []
def P_protocol_factor : Nat → List K → List D → List K → Prop
  | _, _, _, _ => False
theorem use_protocol_factor : ∀ g ks ds rk xs, ByS P_protocol_factor S_protocol_factor g ks ds rk xs → Corr Tryd.prog lay g ks ds rk xs := by
  intro g ks ds rk xs h
  obtain ⟨h1, rfl⟩ := h
  unfold P_protocol_factor at h1
  split at h1
  · exact h1.elim
theorem spec_of_protocol_factor (law : ∀ ds, D.wts (K.tyss k_protocol_factor) ds → p_protocol_factor ds → Ev (ByS P_protocol_factor S_protocol_factor) B_protocol_factor t_protocol_factor ds (s_protocol_factor ds)) : ∀ ds, p_protocol_factor ds → Corr Tryd.prog lay 44 k_protocol_factor ds r_protocol_factor (s_protocol_factor ds) :=
  fun ds hp => .of_wt (by decide) fun hw => correct_protocol_factor ((law ds hw hp).monoC use_protocol_factor)
theorem law_protocol_factor (ds : List D) (hw : D.wts (K.tyss k_protocol_factor) ds) (hp : p_protocol_factor ds) : Ev (ByS P_protocol_factor S_protocol_factor) B_protocol_factor t_protocol_factor ds (s_protocol_factor ds) := by
  obtain ⟨a0, _, rfl, ha0, rfl⟩ := hw
  obtain ⟨x0, rfl⟩ := ha0
  simp [t_protocol_factor, s_protocol_factor, P_protocol_factor, S_protocol_factor, K.rts, K.otyss, K.otys, CK.tyss, K.tyss, K.tys, Ev.ite_iff, Ev.ret_iff, Ev.guard_iff, Ev.jump_iff, Ev.may_iff, Ev.call_iff, E.dens, E.denss, E.den, cmpD, scmpD]
  all_goals (repeat' split) <;> (try simp_all) <;> (try omega)

theorem spec_protocol_factor : ∀ ds, p_protocol_factor ds → Corr Tryd.prog lay 44 k_protocol_factor ds r_protocol_factor (s_protocol_factor ds) := spec_of_protocol_factor law_protocol_factor
/- familycheck/protocol.bounded -/
def k_protocol_bounded : List K := [(.agg [(.int .i64), (.int .i64), (.int .i64), (.int .i64)])]
def r_protocol_bounded : List K := [(.one .bool)]
def b_protocol_bounded : List Blk := []
noncomputable def c_protocol_bounded : Ctx := mkCtx Tryd.prog lay Tryd.f20 ⟨[(44, [(.one .bool)])], [], []⟩ k_protocol_bounded r_protocol_bounded [] b_protocol_bounded
def t_protocol_bounded : T :=
 (.call 44 [(.one (.int .i64))] [(.v 0 (.int .i64))] [(.one .bool)]
 (.ite (.v 4 .bool)
  (.call 44 [(.one (.int .i64))] [(.v 1 (.int .i64))] [(.one .bool)]
  (.ite (.v 5 .bool)
   (.call 44 [(.one (.int .i64))] [(.v 2 (.int .i64))] [(.one .bool)]
   (.ite (.v 6 .bool)
    (.call 44 [(.one (.int .i64))] [(.v 3 (.int .i64))] [(.one .bool)]
    (.ret [(.v 7 .bool)]))
    (.ret [(.b false)])))
   (.ret [(.b false)])))
  (.ret [(.b false)])))
def B_protocol_bounded : Nat → T
  | _ => .dead
theorem ok_protocol_bounded : c_protocol_bounded.Ok 20 B_protocol_bounded := ok_of Tryd.func20 (by kernel_rfl) mixed
  (.nil)
theorem correct_protocol_bounded {ds rs : List D} (h : Ev (Corr Tryd.prog lay) B_protocol_bounded t_protocol_bounded ds rs) : Corr Tryd.prog lay 20 k_protocol_bounded ds r_protocol_bounded rs :=
  correct_of ok_protocol_bounded (n := 100000) (t := t_protocol_bounded) (by kernel_rfl) (by kernel_rfl) h
def S_protocol_bounded : Nat → List D → List D
  | 44, ds => s_protocol_factor ds
  | _, _ => []
def P_protocol_bounded : Nat → List K → List D → List K → Prop
  | 44, ks, ds, rk => ks = k_protocol_factor ∧ rk = r_protocol_factor ∧ p_protocol_factor ds
  | _, _, _, _ => False
theorem use_protocol_bounded : ∀ g ks ds rk xs, ByS P_protocol_bounded S_protocol_bounded g ks ds rk xs → Corr Tryd.prog lay g ks ds rk xs := by
  intro g ks ds rk xs h
  obtain ⟨h1, rfl⟩ := h
  unfold P_protocol_bounded at h1
  split at h1
  · obtain ⟨rfl, rfl, h1⟩ := h1; exact spec_protocol_factor ds h1
  · exact h1.elim
theorem spec_of_protocol_bounded (law : ∀ ds, D.wts (K.tyss k_protocol_bounded) ds → p_protocol_bounded ds → Ev (ByS P_protocol_bounded S_protocol_bounded) B_protocol_bounded t_protocol_bounded ds (s_protocol_bounded ds)) : ∀ ds, p_protocol_bounded ds → Corr Tryd.prog lay 20 k_protocol_bounded ds r_protocol_bounded (s_protocol_bounded ds) :=
  fun ds hp => .of_wt (by decide) fun hw => correct_protocol_bounded ((law ds hw hp).monoC use_protocol_bounded)
theorem law_protocol_bounded (ds : List D) (hw : D.wts (K.tyss k_protocol_bounded) ds) (hp : p_protocol_bounded ds) : Ev (ByS P_protocol_bounded S_protocol_bounded) B_protocol_bounded t_protocol_bounded ds (s_protocol_bounded ds) := by
  obtain ⟨a0, _, rfl, ha0, a1, _, rfl, ha1, a2, _, rfl, ha2, a3, _, rfl, ha3, rfl⟩ := hw
  obtain ⟨x0, rfl⟩ := ha0
  obtain ⟨x1, rfl⟩ := ha1
  obtain ⟨x2, rfl⟩ := ha2
  obtain ⟨x3, rfl⟩ := ha3
  simp [t_protocol_bounded, s_protocol_bounded, P_protocol_bounded, S_protocol_bounded, K.rts, K.otyss, K.otys, CK.tyss, K.tyss, K.tys, Ev.ite_iff, Ev.ret_iff, Ev.guard_iff, Ev.jump_iff, Ev.may_iff, Ev.call_iff, E.dens, E.denss, E.den, cmpD, scmpD, k_protocol_factor, r_protocol_factor, s_protocol_factor, p_protocol_factor, few4, fewI, small]
  all_goals (repeat' split) <;> (try simp_all) <;> (try omega)

theorem spec_protocol_bounded : ∀ ds, p_protocol_bounded ds → Corr Tryd.prog lay 20 k_protocol_bounded ds r_protocol_bounded (s_protocol_bounded ds) := spec_of_protocol_bounded law_protocol_bounded
/- familycheck/protocol.Evaluate -/
def k_protocol_Evaluate : List K := [(.agg [(.int .i64), (.int .i64), (.int .i64), (.int .i64)]), (.agg [(.int .i64), (.int .i64), (.int .i64)])]
def r_protocol_Evaluate : List K := [(.one (.int .i64)), (.one (.int .i64))]
def b_protocol_Evaluate : List Blk := [{ st := [.code [0, 0, 0, 1, 0, 1, 1], .code [1, 0, 0, 1, 0, 1, 1], .inLoop [0, 1, 0, 1, 1], .inBlock 0, .code [1, 1, 1]], σ := { t := [(2, (.ptr 0 0)), (3, (.ptr 1 0)), (4, (.sc (.v 7 (.int .i64)))), (5, (.sc (.v 8 (.int .i64)))), (17, (.sc (.v 9 (.slc [(.int .i64)])))), (18, (.sc (.v 10 (.int .i64)))), (19, (.sc (.v 11 (.int .i64))))], o := [(.box 23 [(.sc (.v 0 (.int .i64))), (.sc (.v 1 (.int .i64))), (.sc (.v 2 (.int .i64))), (.sc (.v 3 (.int .i64)))]), (.box 25 [(.sc (.v 4 (.int .i64))), (.sc (.v 5 (.int .i64))), (.sc (.v 6 (.int .i64)))])] }, tys := [(.int .i64), (.int .i64), (.int .i64), (.int .i64), (.int .i64), (.int .i64), (.int .i64), (.int .i64), (.int .i64), (.slc [(.int .i64)]), (.int .i64), (.int .i64)] }]
noncomputable def c_protocol_Evaluate : Ctx := mkCtx Tryd.prog lay Tryd.f7 ⟨[(20, [(.one .bool)])], [], []⟩ k_protocol_Evaluate r_protocol_Evaluate [(4, 0)] b_protocol_Evaluate
def t_protocol_Evaluate : T :=
 (.call 20 [(.agg [(.int .i64), (.int .i64), (.int .i64), (.int .i64)])] [(.v 0 (.int .i64)), (.v 1 (.int .i64)), (.v 2 (.int .i64)), (.v 3 (.int .i64))] [(.one .bool)]
 (.ite (.not (.v 7 .bool))
  (.ret [(.n .i64 0), (.n .i64 4)])
  (.jump 0 [(.v 0 (.int .i64)), (.v 1 (.int .i64)), (.v 2 (.int .i64)), (.v 3 (.int .i64)), (.v 4 (.int .i64)), (.v 5 (.int .i64)), (.v 6 (.int .i64)), (.n .i64 0), (.n .i64 0), (.lit [(.int .i64)] [[(.v 4 (.int .i64))], [(.v 5 (.int .i64))], [(.v 6 (.int .i64))]]), (.len (.lit [(.int .i64)] [[(.v 4 (.int .i64))], [(.v 5 (.int .i64))], [(.v 6 (.int .i64))]])), (.n .i64 0)])))
def t0_protocol_Evaluate : T :=
 (.ite (.cmp .lss (.v 11 (.int .i64)) (.v 10 (.int .i64)))
  (.guard (.and (.cmp .geq (.v 11 (.int .i64)) (.n .i64 0)) (.cmp .lss (.v 11 (.int .i64)) (.len (.v 9 (.slc [(.int .i64)])))))
  (.ite (.cmp .lss (.cell (.v 9 (.slc [(.int .i64)])) (.v 11 (.int .i64)) 0 (.int .i64)) (.n .i64 0))
   (.ret [(.n .i64 0), (.n .i64 8)])
   (.ite (.cmp .gtr (.cell (.v 9 (.slc [(.int .i64)])) (.v 11 (.int .i64)) 0 (.int .i64)) (.n .i64 1048576))
    (.ret [(.n .i64 0), (.n .i64 8)])
    (.jump 0 [(.v 0 (.int .i64)), (.v 1 (.int .i64)), (.v 2 (.int .i64)), (.v 3 (.int .i64)), (.v 4 (.int .i64)), (.v 5 (.int .i64)), (.v 6 (.int .i64)), (.v 7 (.int .i64)), (.v 8 (.int .i64)), (.v 9 (.slc [(.int .i64)])), (.v 10 (.int .i64)), (.ar .add .i64 (.v 11 (.int .i64)) (.n .i64 1))]))))
  (.ret [(.ar .add .i64 (.ar .add .i64 (.ar .add .i64 (.v 0 (.int .i64)) (.ar .mul .i64 (.v 1 (.int .i64)) (.v 4 (.int .i64)))) (.ar .mul .i64 (.v 2 (.int .i64)) (.v 5 (.int .i64)))) (.ar .mul .i64 (.v 3 (.int .i64)) (.v 6 (.int .i64)))), (.n .i64 0)]))
def B_protocol_Evaluate : Nat → T
  | 0 => t0_protocol_Evaluate
  | _ => .dead
theorem ok_protocol_Evaluate : c_protocol_Evaluate.Ok 7 B_protocol_Evaluate := ok_of Tryd.func7 (by kernel_rfl) mixed
  (.cons (n := 100000) (by kernel_rfl) (.nil))
theorem correct_protocol_Evaluate {ds rs : List D} (h : Ev (Corr Tryd.prog lay) B_protocol_Evaluate t_protocol_Evaluate ds rs) : Corr Tryd.prog lay 7 k_protocol_Evaluate ds r_protocol_Evaluate rs :=
  correct_of ok_protocol_Evaluate (n := 100000) (t := t_protocol_Evaluate) (by kernel_rfl) (by kernel_rfl) h
def S_protocol_Evaluate : Nat → List D → List D
  | 20, ds => s_protocol_bounded ds
  | _, _ => []
def P_protocol_Evaluate : Nat → List K → List D → List K → Prop
  | 20, ks, ds, rk => ks = k_protocol_bounded ∧ rk = r_protocol_bounded ∧ p_protocol_bounded ds
  | _, _, _, _ => False
theorem use_protocol_Evaluate : ∀ g ks ds rk xs, ByS P_protocol_Evaluate S_protocol_Evaluate g ks ds rk xs → Corr Tryd.prog lay g ks ds rk xs := by
  intro g ks ds rk xs h
  obtain ⟨h1, rfl⟩ := h
  unfold P_protocol_Evaluate at h1
  split at h1
  · obtain ⟨rfl, rfl, h1⟩ := h1; exact spec_protocol_bounded ds h1
  · exact h1.elim
theorem spec_of_protocol_Evaluate (law : ∀ ds, D.wts (K.tyss k_protocol_Evaluate) ds → p_protocol_Evaluate ds → Ev (ByS P_protocol_Evaluate S_protocol_Evaluate) B_protocol_Evaluate t_protocol_Evaluate ds (s_protocol_Evaluate ds)) : ∀ ds, p_protocol_Evaluate ds → Corr Tryd.prog lay 7 k_protocol_Evaluate ds r_protocol_Evaluate (s_protocol_Evaluate ds) :=
  fun ds hp => .of_wt (by decide) fun hw => correct_protocol_Evaluate ((law ds hw hp).monoC use_protocol_Evaluate)
theorem law_protocol_Evaluate (ds : List D) (hw : D.wts (K.tyss k_protocol_Evaluate) ds) (hp : p_protocol_Evaluate ds) : Ev (ByS P_protocol_Evaluate S_protocol_Evaluate) B_protocol_Evaluate t_protocol_Evaluate ds (s_protocol_Evaluate ds) := by
  obtain ⟨a0, _, rfl, ha0, a1, _, rfl, ha1, a2, _, rfl, ha2, a3, _, rfl, ha3, a4, _, rfl, ha4, a5, _, rfl, ha5, a6, _, rfl, ha6, rfl⟩ := hw
  obtain ⟨x0, rfl⟩ := ha0
  obtain ⟨x1, rfl⟩ := ha1
  obtain ⟨x2, rfl⟩ := ha2
  obtain ⟨x3, rfl⟩ := ha3
  obtain ⟨x4, rfl⟩ := ha4
  obtain ⟨x5, rfl⟩ := ha5
  obtain ⟨x6, rfl⟩ := ha6
  simp [t_protocol_Evaluate, s_protocol_Evaluate, P_protocol_Evaluate, S_protocol_Evaluate, K.rts, K.otyss, K.otys, CK.tyss, K.tyss, K.tys, Ev.ite_iff, Ev.ret_iff, Ev.guard_iff, Ev.jump_iff, Ev.may_iff, Ev.call_iff, E.dens, E.denss, E.den, cmpD, scmpD, k_protocol_bounded, r_protocol_bounded, s_protocol_bounded, p_protocol_bounded, eval7, para, few4, val7, t0_protocol_Evaluate, B_protocol_Evaluate, arD, show IntKind.i64.wrap 1 = 1 from rfl, show IntKind.i64.wrap 2 = 2 from rfl, show IntKind.i64.wrap 3 = 3 from rfl]
  all_goals (repeat' split) <;> (try simp_all) <;> (try omega)

theorem spec_protocol_Evaluate : ∀ ds, p_protocol_Evaluate ds → Corr Tryd.prog lay 7 k_protocol_Evaluate ds r_protocol_Evaluate (s_protocol_Evaluate ds) := spec_of_protocol_Evaluate law_protocol_Evaluate
/- familycheck/familycheckref02.within -/
def k_ref02_within : List K := [(.one (.int .i64)), (.one (.int .i64)), (.one (.int .i64))]
def r_ref02_within : List K := [(.one .bool)]
def b_ref02_within : List Blk := []
noncomputable def c_ref02_within : Ctx := mkCtx Tryd.prog lay Tryd.f22 ⟨[], [], []⟩ k_ref02_within r_ref02_within [] b_ref02_within
def t_ref02_within : T :=
 (.ite (.cmp .geq (.v 0 (.int .i64)) (.v 1 (.int .i64)))
  (.ret [(.cmp .leq (.v 0 (.int .i64)) (.v 2 (.int .i64)))])
  (.ret [(.b false)]))
def B_ref02_within : Nat → T
  | _ => .dead
theorem ok_ref02_within : c_ref02_within.Ok 22 B_ref02_within := ok_of Tryd.func22 (by kernel_rfl) mixed
  (.nil)
theorem correct_ref02_within {ds rs : List D} (h : Ev (Corr Tryd.prog lay) B_ref02_within t_ref02_within ds rs) : Corr Tryd.prog lay 22 k_ref02_within ds r_ref02_within rs :=
  correct_of ok_ref02_within (n := 100000) (t := t_ref02_within) (by kernel_rfl) (by kernel_rfl) h
def S_ref02_within : Nat → List D → List D
  | _, _ => []
def P_ref02_within : Nat → List K → List D → List K → Prop
  | _, _, _, _ => False
theorem use_ref02_within : ∀ g ks ds rk xs, ByS P_ref02_within S_ref02_within g ks ds rk xs → Corr Tryd.prog lay g ks ds rk xs := by
  intro g ks ds rk xs h
  obtain ⟨h1, rfl⟩ := h
  unfold P_ref02_within at h1
  split at h1
  · exact h1.elim
theorem spec_of_ref02_within (law : ∀ ds, D.wts (K.tyss k_ref02_within) ds → p_ref02_within ds → Ev (ByS P_ref02_within S_ref02_within) B_ref02_within t_ref02_within ds (s_ref02_within ds)) : ∀ ds, p_ref02_within ds → Corr Tryd.prog lay 22 k_ref02_within ds r_ref02_within (s_ref02_within ds) :=
  fun ds hp => .of_wt (by decide) fun hw => correct_ref02_within ((law ds hw hp).monoC use_ref02_within)
theorem law_ref02_within (ds : List D) (hw : D.wts (K.tyss k_ref02_within) ds) (hp : p_ref02_within ds) : Ev (ByS P_ref02_within S_ref02_within) B_ref02_within t_ref02_within ds (s_ref02_within ds) := by
  obtain ⟨a0, _, rfl, ha0, a1, _, rfl, ha1, a2, _, rfl, ha2, rfl⟩ := hw
  obtain ⟨x0, rfl⟩ := ha0
  obtain ⟨x1, rfl⟩ := ha1
  obtain ⟨x2, rfl⟩ := ha2
  simp [t_ref02_within, s_ref02_within, P_ref02_within, S_ref02_within, K.rts, K.otyss, K.otys, CK.tyss, K.tyss, K.tys, Ev.ite_iff, Ev.ret_iff, Ev.guard_iff, Ev.jump_iff, Ev.may_iff, Ev.call_iff, E.dens, E.denss, E.den, cmpD, scmpD]
  all_goals (repeat' split) <;> (try simp_all) <;> (try omega)

theorem spec_ref02_within : ∀ ds, p_ref02_within ds → Corr Tryd.prog lay 22 k_ref02_within ds r_ref02_within (s_ref02_within ds) := spec_of_ref02_within law_ref02_within
/- familycheck/familycheckref02.few -/
def k_ref02_few : List K := [(.agg [(.int .i64), (.int .i64), (.int .i64), (.int .i64)])]
def r_ref02_few : List K := [(.one .bool)]
def b_ref02_few : List Blk := []
noncomputable def c_ref02_few : Ctx := mkCtx Tryd.prog lay Tryd.f21 ⟨[(22, [(.one .bool)])], [], []⟩ k_ref02_few r_ref02_few [] b_ref02_few
def t_ref02_few : T :=
 (.call 22 [(.one (.int .i64)), (.one (.int .i64)), (.one (.int .i64))] [(.v 0 (.int .i64)), (.n .i64 (-100)), (.n .i64 100)] [(.one .bool)]
 (.ite (.v 4 .bool)
  (.call 22 [(.one (.int .i64)), (.one (.int .i64)), (.one (.int .i64))] [(.v 1 (.int .i64)), (.n .i64 (-100)), (.n .i64 100)] [(.one .bool)]
  (.ite (.v 5 .bool)
   (.call 22 [(.one (.int .i64)), (.one (.int .i64)), (.one (.int .i64))] [(.v 2 (.int .i64)), (.n .i64 (-100)), (.n .i64 100)] [(.one .bool)]
   (.ite (.v 6 .bool)
    (.call 22 [(.one (.int .i64)), (.one (.int .i64)), (.one (.int .i64))] [(.v 3 (.int .i64)), (.n .i64 (-100)), (.n .i64 100)] [(.one .bool)]
    (.ret [(.v 7 .bool)]))
    (.ret [(.b false)])))
   (.ret [(.b false)])))
  (.ret [(.b false)])))
def B_ref02_few : Nat → T
  | _ => .dead
theorem ok_ref02_few : c_ref02_few.Ok 21 B_ref02_few := ok_of Tryd.func21 (by kernel_rfl) mixed
  (.nil)
theorem correct_ref02_few {ds rs : List D} (h : Ev (Corr Tryd.prog lay) B_ref02_few t_ref02_few ds rs) : Corr Tryd.prog lay 21 k_ref02_few ds r_ref02_few rs :=
  correct_of ok_ref02_few (n := 100000) (t := t_ref02_few) (by kernel_rfl) (by kernel_rfl) h
def S_ref02_few : Nat → List D → List D
  | 22, ds => s_ref02_within ds
  | _, _ => []
def P_ref02_few : Nat → List K → List D → List K → Prop
  | 22, ks, ds, rk => ks = k_ref02_within ∧ rk = r_ref02_within ∧ p_ref02_within ds
  | _, _, _, _ => False
theorem use_ref02_few : ∀ g ks ds rk xs, ByS P_ref02_few S_ref02_few g ks ds rk xs → Corr Tryd.prog lay g ks ds rk xs := by
  intro g ks ds rk xs h
  obtain ⟨h1, rfl⟩ := h
  unfold P_ref02_few at h1
  split at h1
  · obtain ⟨rfl, rfl, h1⟩ := h1; exact spec_ref02_within ds h1
  · exact h1.elim
theorem spec_of_ref02_few (law : ∀ ds, D.wts (K.tyss k_ref02_few) ds → p_ref02_few ds → Ev (ByS P_ref02_few S_ref02_few) B_ref02_few t_ref02_few ds (s_ref02_few ds)) : ∀ ds, p_ref02_few ds → Corr Tryd.prog lay 21 k_ref02_few ds r_ref02_few (s_ref02_few ds) :=
  fun ds hp => .of_wt (by decide) fun hw => correct_ref02_few ((law ds hw hp).monoC use_ref02_few)
theorem law_ref02_few (ds : List D) (hw : D.wts (K.tyss k_ref02_few) ds) (hp : p_ref02_few ds) : Ev (ByS P_ref02_few S_ref02_few) B_ref02_few t_ref02_few ds (s_ref02_few ds) := by
  obtain ⟨a0, _, rfl, ha0, a1, _, rfl, ha1, a2, _, rfl, ha2, a3, _, rfl, ha3, rfl⟩ := hw
  obtain ⟨x0, rfl⟩ := ha0
  obtain ⟨x1, rfl⟩ := ha1
  obtain ⟨x2, rfl⟩ := ha2
  obtain ⟨x3, rfl⟩ := ha3
  simp [t_ref02_few, s_ref02_few, P_ref02_few, S_ref02_few, K.rts, K.otyss, K.otys, CK.tyss, K.tyss, K.tys, Ev.ite_iff, Ev.ret_iff, Ev.guard_iff, Ev.jump_iff, Ev.may_iff, Ev.call_iff, E.dens, E.denss, E.den, cmpD, scmpD, k_ref02_within, r_ref02_within, s_ref02_within, p_ref02_within, few4, fewI, small]
  all_goals (repeat' split) <;> (try simp_all) <;> (try omega)

theorem spec_ref02_few : ∀ ds, p_ref02_few ds → Corr Tryd.prog lay 21 k_ref02_few ds r_ref02_few (s_ref02_few ds) := spec_of_ref02_few law_ref02_few
/- familycheck/familycheckref02.value -/
def k_ref02_value : List K := [(.agg [(.int .i64), (.int .i64), (.int .i64), (.int .i64)]), (.agg [(.int .i64), (.int .i64), (.int .i64)])]
def r_ref02_value : List K := [(.one (.int .i64))]
def b_ref02_value : List Blk := []
noncomputable def c_ref02_value : Ctx := mkCtx Tryd.prog lay Tryd.f23 ⟨[], [], []⟩ k_ref02_value r_ref02_value [] b_ref02_value
def t_ref02_value : T :=
 (.ret [(.ar .add .i64 (.ar .add .i64 (.ar .add .i64 (.v 0 (.int .i64)) (.ar .mul .i64 (.v 1 (.int .i64)) (.v 4 (.int .i64)))) (.ar .mul .i64 (.v 2 (.int .i64)) (.v 5 (.int .i64)))) (.ar .mul .i64 (.v 3 (.int .i64)) (.v 6 (.int .i64))))])
def B_ref02_value : Nat → T
  | _ => .dead
theorem ok_ref02_value : c_ref02_value.Ok 23 B_ref02_value := ok_of Tryd.func23 (by kernel_rfl) mixed
  (.nil)
theorem correct_ref02_value {ds rs : List D} (h : Ev (Corr Tryd.prog lay) B_ref02_value t_ref02_value ds rs) : Corr Tryd.prog lay 23 k_ref02_value ds r_ref02_value rs :=
  correct_of ok_ref02_value (n := 100000) (t := t_ref02_value) (by kernel_rfl) (by kernel_rfl) h
def S_ref02_value : Nat → List D → List D
  | _, _ => []
def P_ref02_value : Nat → List K → List D → List K → Prop
  | _, _, _, _ => False
theorem use_ref02_value : ∀ g ks ds rk xs, ByS P_ref02_value S_ref02_value g ks ds rk xs → Corr Tryd.prog lay g ks ds rk xs := by
  intro g ks ds rk xs h
  obtain ⟨h1, rfl⟩ := h
  unfold P_ref02_value at h1
  split at h1
  · exact h1.elim
theorem spec_of_ref02_value (law : ∀ ds, D.wts (K.tyss k_ref02_value) ds → p_ref02_value ds → Ev (ByS P_ref02_value S_ref02_value) B_ref02_value t_ref02_value ds (s_ref02_value ds)) : ∀ ds, p_ref02_value ds → Corr Tryd.prog lay 23 k_ref02_value ds r_ref02_value (s_ref02_value ds) :=
  fun ds hp => .of_wt (by decide) fun hw => correct_ref02_value ((law ds hw hp).monoC use_ref02_value)
theorem law_ref02_value (ds : List D) (hw : D.wts (K.tyss k_ref02_value) ds) (hp : p_ref02_value ds) : Ev (ByS P_ref02_value S_ref02_value) B_ref02_value t_ref02_value ds (s_ref02_value ds) := by
  obtain ⟨a0, _, rfl, ha0, a1, _, rfl, ha1, a2, _, rfl, ha2, a3, _, rfl, ha3, a4, _, rfl, ha4, a5, _, rfl, ha5, a6, _, rfl, ha6, rfl⟩ := hw
  obtain ⟨x0, rfl⟩ := ha0
  obtain ⟨x1, rfl⟩ := ha1
  obtain ⟨x2, rfl⟩ := ha2
  obtain ⟨x3, rfl⟩ := ha3
  obtain ⟨x4, rfl⟩ := ha4
  obtain ⟨x5, rfl⟩ := ha5
  obtain ⟨x6, rfl⟩ := ha6
  simp [t_ref02_value, s_ref02_value, P_ref02_value, S_ref02_value, K.rts, K.otyss, K.otys, CK.tyss, K.tyss, K.tys, Ev.ite_iff, Ev.ret_iff, Ev.guard_iff, Ev.jump_iff, Ev.may_iff, Ev.call_iff, E.dens, E.denss, E.den, cmpD, scmpD, val7]
  all_goals (repeat' split) <;> (try simp_all) <;> (try omega)

theorem spec_ref02_value : ∀ ds, p_ref02_value ds → Corr Tryd.prog lay 23 k_ref02_value ds r_ref02_value (s_ref02_value ds) := spec_of_ref02_value law_ref02_value
/- familycheck/familycheckref02.Evaluate -/
def k_ref02_Evaluate : List K := [(.agg [(.int .i64), (.int .i64), (.int .i64), (.int .i64)]), (.agg [(.int .i64), (.int .i64), (.int .i64)])]
def r_ref02_Evaluate : List K := [(.one (.int .i64)), (.one (.int .i64))]
def b_ref02_Evaluate : List Blk := []
noncomputable def c_ref02_Evaluate : Ctx := mkCtx Tryd.prog lay Tryd.f8 ⟨[(21, [(.one .bool)]), (22, [(.one .bool)]), (23, [(.one (.int .i64))])], [], []⟩ k_ref02_Evaluate r_ref02_Evaluate [] b_ref02_Evaluate
def t_ref02_Evaluate : T :=
 (.call 21 [(.agg [(.int .i64), (.int .i64), (.int .i64), (.int .i64)])] [(.v 0 (.int .i64)), (.v 1 (.int .i64)), (.v 2 (.int .i64)), (.v 3 (.int .i64))] [(.one .bool)]
 (.ite (.not (.v 7 .bool))
  (.ret [(.n .i64 0), (.n .i64 4)])
  (.call 22 [(.one (.int .i64)), (.one (.int .i64)), (.one (.int .i64))] [(.v 4 (.int .i64)), (.n .i64 0), (.n .i64 1048576)] [(.one .bool)]
  (.ite (.not (.v 8 .bool))
   (.ret [(.n .i64 0), (.n .i64 8)])
   (.call 22 [(.one (.int .i64)), (.one (.int .i64)), (.one (.int .i64))] [(.v 5 (.int .i64)), (.n .i64 0), (.n .i64 1048576)] [(.one .bool)]
   (.ite (.not (.v 9 .bool))
    (.ret [(.n .i64 0), (.n .i64 8)])
    (.call 22 [(.one (.int .i64)), (.one (.int .i64)), (.one (.int .i64))] [(.v 6 (.int .i64)), (.n .i64 0), (.n .i64 1048576)] [(.one .bool)]
    (.ite (.not (.v 10 .bool))
     (.ret [(.n .i64 0), (.n .i64 8)])
     (.call 23 [(.agg [(.int .i64), (.int .i64), (.int .i64), (.int .i64)]), (.agg [(.int .i64), (.int .i64), (.int .i64)])] [(.v 0 (.int .i64)), (.v 1 (.int .i64)), (.v 2 (.int .i64)), (.v 3 (.int .i64)), (.v 4 (.int .i64)), (.v 5 (.int .i64)), (.v 6 (.int .i64))] [(.one (.int .i64))]
     (.ret [(.v 11 (.int .i64)), (.n .i64 0)]))))))))))
def B_ref02_Evaluate : Nat → T
  | _ => .dead
theorem ok_ref02_Evaluate : c_ref02_Evaluate.Ok 8 B_ref02_Evaluate := ok_of Tryd.func8 (by kernel_rfl) mixed
  (.nil)
theorem correct_ref02_Evaluate {ds rs : List D} (h : Ev (Corr Tryd.prog lay) B_ref02_Evaluate t_ref02_Evaluate ds rs) : Corr Tryd.prog lay 8 k_ref02_Evaluate ds r_ref02_Evaluate rs :=
  correct_of ok_ref02_Evaluate (n := 100000) (t := t_ref02_Evaluate) (by kernel_rfl) (by kernel_rfl) h
def S_ref02_Evaluate : Nat → List D → List D
  | 21, ds => s_ref02_few ds
  | 22, ds => s_ref02_within ds
  | 23, ds => s_ref02_value ds
  | _, _ => []
def P_ref02_Evaluate : Nat → List K → List D → List K → Prop
  | 21, ks, ds, rk => ks = k_ref02_few ∧ rk = r_ref02_few ∧ p_ref02_few ds
  | 22, ks, ds, rk => ks = k_ref02_within ∧ rk = r_ref02_within ∧ p_ref02_within ds
  | 23, ks, ds, rk => ks = k_ref02_value ∧ rk = r_ref02_value ∧ p_ref02_value ds
  | _, _, _, _ => False
theorem use_ref02_Evaluate : ∀ g ks ds rk xs, ByS P_ref02_Evaluate S_ref02_Evaluate g ks ds rk xs → Corr Tryd.prog lay g ks ds rk xs := by
  intro g ks ds rk xs h
  obtain ⟨h1, rfl⟩ := h
  unfold P_ref02_Evaluate at h1
  split at h1
  · obtain ⟨rfl, rfl, h1⟩ := h1; exact spec_ref02_few ds h1
  · obtain ⟨rfl, rfl, h1⟩ := h1; exact spec_ref02_within ds h1
  · obtain ⟨rfl, rfl, h1⟩ := h1; exact spec_ref02_value ds h1
  · exact h1.elim
theorem spec_of_ref02_Evaluate (law : ∀ ds, D.wts (K.tyss k_ref02_Evaluate) ds → p_ref02_Evaluate ds → Ev (ByS P_ref02_Evaluate S_ref02_Evaluate) B_ref02_Evaluate t_ref02_Evaluate ds (s_ref02_Evaluate ds)) : ∀ ds, p_ref02_Evaluate ds → Corr Tryd.prog lay 8 k_ref02_Evaluate ds r_ref02_Evaluate (s_ref02_Evaluate ds) :=
  fun ds hp => .of_wt (by decide) fun hw => correct_ref02_Evaluate ((law ds hw hp).monoC use_ref02_Evaluate)
theorem law_ref02_Evaluate (ds : List D) (hw : D.wts (K.tyss k_ref02_Evaluate) ds) (hp : p_ref02_Evaluate ds) : Ev (ByS P_ref02_Evaluate S_ref02_Evaluate) B_ref02_Evaluate t_ref02_Evaluate ds (s_ref02_Evaluate ds) := by
  obtain ⟨a0, _, rfl, ha0, a1, _, rfl, ha1, a2, _, rfl, ha2, a3, _, rfl, ha3, a4, _, rfl, ha4, a5, _, rfl, ha5, a6, _, rfl, ha6, rfl⟩ := hw
  obtain ⟨x0, rfl⟩ := ha0
  obtain ⟨x1, rfl⟩ := ha1
  obtain ⟨x2, rfl⟩ := ha2
  obtain ⟨x3, rfl⟩ := ha3
  obtain ⟨x4, rfl⟩ := ha4
  obtain ⟨x5, rfl⟩ := ha5
  obtain ⟨x6, rfl⟩ := ha6
  simp [t_ref02_Evaluate, s_ref02_Evaluate, P_ref02_Evaluate, S_ref02_Evaluate, K.rts, K.otyss, K.otys, CK.tyss, K.tyss, K.tys, Ev.ite_iff, Ev.ret_iff, Ev.guard_iff, Ev.jump_iff, Ev.may_iff, Ev.call_iff, E.dens, E.denss, E.den, cmpD, scmpD, k_ref02_few, r_ref02_few, s_ref02_few, p_ref02_few, k_ref02_within, r_ref02_within, s_ref02_within, p_ref02_within, k_ref02_value, r_ref02_value, s_ref02_value, p_ref02_value, eval7, para, few4, val7]
  all_goals (repeat' split) <;> (try simp_all) <;> (try omega)

theorem spec_ref02_Evaluate : ∀ ds, p_ref02_Evaluate ds → Corr Tryd.prog lay 8 k_ref02_Evaluate ds r_ref02_Evaluate (s_ref02_Evaluate ds) := spec_of_ref02_Evaluate law_ref02_Evaluate
def k_strings_Builder__copyCheck : List K := [(.obj 76 [.sp, (.gro 5 [(.int .u8)])])]
def r_strings_Builder__copyCheck : List K := []
theorem spec_strings_Builder__copyCheck : ∀ ds, p_strings_Builder__copyCheck ds → Corr Tryd.prog lay 54 k_strings_Builder__copyCheck ds r_strings_Builder__copyCheck (s_strings_Builder__copyCheck ds) := fun ds _ => corr_copyCheck (u8 := 5) copyCheck_used copyCheck_fresh ds
/- (*strings.Builder).WriteByte -/
def k_strings_Builder__WriteByte : List K := [(.obj 76 [.sp, (.gro 5 [(.int .u8)])]), (.one (.int .u8))]
def r_strings_Builder__WriteByte : List K := [.unk]
def b_strings_Builder__WriteByte : List Blk := []
noncomputable def c_strings_Builder__WriteByte : Ctx := mkCtx Tryd.prog lay Tryd.f45 ⟨[(54, [])], [(54, [some (76, [.sp, (.gro 5 [(.int .u8)])])])], []⟩ k_strings_Builder__WriteByte r_strings_Builder__WriteByte [] b_strings_Builder__WriteByte
def t_strings_Builder__WriteByte : T :=
 (.call 54 [(.obj 76 [.sp, (.gro 5 [(.int .u8)])])] [(.v 0 .bool), (.v 1 (.slc [(.int .u8)]))] []
 (.guard (.and (.cmp .leq (.len (.v 4 (.slc [(.int .u8)]))) (.n .i64 35184372088832)) (.cmp .leq (.len (.lit [(.int .u8)] [[(.v 2 (.int .u8))]])) (.n .i64 35184372088832)))
 (.ret [(.v 3 .bool), (.appAll (.v 4 (.slc [(.int .u8)])) (.lit [(.int .u8)] [[(.v 2 (.int .u8))]]))])))
def B_strings_Builder__WriteByte : Nat → T
  | _ => .dead
theorem ok_strings_Builder__WriteByte : c_strings_Builder__WriteByte.Ok 45 B_strings_Builder__WriteByte := ok_of Tryd.func45 (by kernel_rfl) mixed
  (.nil)
theorem correct_strings_Builder__WriteByte {ds rs : List D} (h : Ev (Corr Tryd.prog lay) B_strings_Builder__WriteByte t_strings_Builder__WriteByte ds rs) : Corr Tryd.prog lay 45 k_strings_Builder__WriteByte ds r_strings_Builder__WriteByte rs :=
  correct_of ok_strings_Builder__WriteByte (n := 100000) (t := t_strings_Builder__WriteByte) (by kernel_rfl) (by kernel_rfl) h
def S_strings_Builder__WriteByte : Nat → List D → List D
  | 54, ds => s_strings_Builder__copyCheck ds
  | _, _ => []
def P_strings_Builder__WriteByte : Nat → List K → List D → List K → Prop
  | 54, ks, ds, rk => ks = k_strings_Builder__copyCheck ∧ rk = r_strings_Builder__copyCheck ∧ p_strings_Builder__copyCheck ds
  | _, _, _, _ => False
theorem use_strings_Builder__WriteByte : ∀ g ks ds rk xs, ByS P_strings_Builder__WriteByte S_strings_Builder__WriteByte g ks ds rk xs → Corr Tryd.prog lay g ks ds rk xs := by
  intro g ks ds rk xs h
  obtain ⟨h1, rfl⟩ := h
  unfold P_strings_Builder__WriteByte at h1
  split at h1
  · obtain ⟨rfl, rfl, h1⟩ := h1; exact spec_strings_Builder__copyCheck ds h1
  · exact h1.elim
theorem spec_of_strings_Builder__WriteByte (law : ∀ ds, D.wts (K.tyss k_strings_Builder__WriteByte) ds → p_strings_Builder__WriteByte ds → Ev (ByS P_strings_Builder__WriteByte S_strings_Builder__WriteByte) B_strings_Builder__WriteByte t_strings_Builder__WriteByte ds (s_strings_Builder__WriteByte ds)) : ∀ ds, p_strings_Builder__WriteByte ds → Corr Tryd.prog lay 45 k_strings_Builder__WriteByte ds r_strings_Builder__WriteByte (s_strings_Builder__WriteByte ds) :=
  fun ds hp => .of_wt (by decide) fun hw => correct_strings_Builder__WriteByte ((law ds hw hp).monoC use_strings_Builder__WriteByte)
theorem law_strings_Builder__WriteByte (ds : List D) (hw : D.wts (K.tyss k_strings_Builder__WriteByte) ds) (hp : p_strings_Builder__WriteByte ds) : Ev (ByS P_strings_Builder__WriteByte S_strings_Builder__WriteByte) B_strings_Builder__WriteByte t_strings_Builder__WriteByte ds (s_strings_Builder__WriteByte ds) := by
  obtain ⟨a0, _, rfl, ha0, a1, _, rfl, ha1, a2, _, rfl, ha2, rfl⟩ := hw
  obtain ⟨x0, rfl⟩ := ha0
  obtain ⟨x1, rfl, la1, wa1⟩ := ha1
  obtain ⟨x2, rfl⟩ := ha2
  simp [p_strings_Builder__WriteByte] at hp
  simp [t_strings_Builder__WriteByte, s_strings_Builder__WriteByte, P_strings_Builder__WriteByte, S_strings_Builder__WriteByte, k_strings_Builder__copyCheck, r_strings_Builder__copyCheck, s_strings_Builder__copyCheck, p_strings_Builder__copyCheck, K.rts, K.otyss, K.otys, CK.tyss, CK.tys, K.tyss, K.tys, Ev.ret_iff, Ev.guard_iff, Ev.call_iff, E.dens, E.denss, E.den, cmpD]
  omega

theorem spec_strings_Builder__WriteByte : ∀ ds, p_strings_Builder__WriteByte ds → Corr Tryd.prog lay 45 k_strings_Builder__WriteByte ds r_strings_Builder__WriteByte (s_strings_Builder__WriteByte ds) := spec_of_strings_Builder__WriteByte law_strings_Builder__WriteByte
def k_strconv_Itoa : List K := [(.one (.int .i64))]
def r_strconv_Itoa : List K := [(.one .str)]
theorem spec_strconv_Itoa : ∀ ds, p_strconv_Itoa ds → Corr Tryd.prog lay 48 k_strconv_Itoa ds r_strconv_Itoa (s_strconv_Itoa ds) := fun ds hp => corr_Itoa (u := ("internal/strconv.uint64pow10", .u64, Lib.pow10Tab)) (fun w h => (show ∀ x ∈ tables, Lib.TabIs Tryd.prog w x.1 x.2.1 x.2.2 from h) _ (by simp [tables])) (fun n w h0 h1 ht => Tryd.strconv_Itoa n h0 h1 w ht) ds hp
/- (*strings.Builder).WriteString -/
def k_strings_Builder__WriteString : List K := [(.obj 76 [.sp, (.gro 5 [(.int .u8)])]), (.one .str)]
def r_strings_Builder__WriteString : List K := [(.one (.int .i64)), .unk]
def b_strings_Builder__WriteString : List Blk := []
noncomputable def c_strings_Builder__WriteString : Ctx := mkCtx Tryd.prog lay Tryd.f47 ⟨[(54, [])], [(54, [some (76, [.sp, (.gro 5 [(.int .u8)])])])], []⟩ k_strings_Builder__WriteString r_strings_Builder__WriteString [] b_strings_Builder__WriteString
def t_strings_Builder__WriteString : T :=
 (.call 54 [(.obj 76 [.sp, (.gro 5 [(.int .u8)])])] [(.v 0 .bool), (.v 1 (.slc [(.int .u8)]))] []
 (.guard (.and (.cmp .leq (.len (.v 4 (.slc [(.int .u8)]))) (.n .i64 35184372088832)) (.cmp .leq (.len (.bytes (.v 2 .str))) (.n .i64 35184372088832)))
 (.ret [(.slen (.v 2 .str)), (.v 3 .bool), (.appAll (.v 4 (.slc [(.int .u8)])) (.bytes (.v 2 .str)))])))
def B_strings_Builder__WriteString : Nat → T
  | _ => .dead
theorem ok_strings_Builder__WriteString : c_strings_Builder__WriteString.Ok 47 B_strings_Builder__WriteString := ok_of Tryd.func47 (by kernel_rfl) mixed
  (.nil)
theorem correct_strings_Builder__WriteString {ds rs : List D} (h : Ev (Corr Tryd.prog lay) B_strings_Builder__WriteString t_strings_Builder__WriteString ds rs) : Corr Tryd.prog lay 47 k_strings_Builder__WriteString ds r_strings_Builder__WriteString rs :=
  correct_of ok_strings_Builder__WriteString (n := 100000) (t := t_strings_Builder__WriteString) (by kernel_rfl) (by kernel_rfl) h
def S_strings_Builder__WriteString : Nat → List D → List D
  | 54, ds => s_strings_Builder__copyCheck ds
  | _, _ => []
def P_strings_Builder__WriteString : Nat → List K → List D → List K → Prop
  | 54, ks, ds, rk => ks = k_strings_Builder__copyCheck ∧ rk = r_strings_Builder__copyCheck ∧ p_strings_Builder__copyCheck ds
  | _, _, _, _ => False
theorem use_strings_Builder__WriteString : ∀ g ks ds rk xs, ByS P_strings_Builder__WriteString S_strings_Builder__WriteString g ks ds rk xs → Corr Tryd.prog lay g ks ds rk xs := by
  intro g ks ds rk xs h
  obtain ⟨h1, rfl⟩ := h
  unfold P_strings_Builder__WriteString at h1
  split at h1
  · obtain ⟨rfl, rfl, h1⟩ := h1; exact spec_strings_Builder__copyCheck ds h1
  · exact h1.elim
theorem spec_of_strings_Builder__WriteString (law : ∀ ds, D.wts (K.tyss k_strings_Builder__WriteString) ds → p_strings_Builder__WriteString ds → Ev (ByS P_strings_Builder__WriteString S_strings_Builder__WriteString) B_strings_Builder__WriteString t_strings_Builder__WriteString ds (s_strings_Builder__WriteString ds)) : ∀ ds, p_strings_Builder__WriteString ds → Corr Tryd.prog lay 47 k_strings_Builder__WriteString ds r_strings_Builder__WriteString (s_strings_Builder__WriteString ds) :=
  fun ds hp => .of_wt (by decide) fun hw => correct_strings_Builder__WriteString ((law ds hw hp).monoC use_strings_Builder__WriteString)
theorem law_strings_Builder__WriteString (ds : List D) (hw : D.wts (K.tyss k_strings_Builder__WriteString) ds) (hp : p_strings_Builder__WriteString ds) : Ev (ByS P_strings_Builder__WriteString S_strings_Builder__WriteString) B_strings_Builder__WriteString t_strings_Builder__WriteString ds (s_strings_Builder__WriteString ds) := by
  obtain ⟨a0, _, rfl, ha0, a1, _, rfl, ha1, a2, _, rfl, ha2, rfl⟩ := hw
  obtain ⟨x0, rfl⟩ := ha0
  obtain ⟨x1, rfl, la1, wa1⟩ := ha1
  obtain ⟨x2, rfl⟩ := ha2
  simp [p_strings_Builder__WriteString] at hp
  simp [t_strings_Builder__WriteString, s_strings_Builder__WriteString, P_strings_Builder__WriteString, S_strings_Builder__WriteString, k_strings_Builder__copyCheck, r_strings_Builder__copyCheck, s_strings_Builder__copyCheck, p_strings_Builder__copyCheck, K.rts, K.otyss, K.otys, CK.tyss, CK.tys, K.tyss, K.tys, Ev.ret_iff, Ev.guard_iff, Ev.call_iff, E.dens, E.denss, E.den, cmpD, bytesD]
  omega

theorem spec_strings_Builder__WriteString : ∀ ds, p_strings_Builder__WriteString ds → Corr Tryd.prog lay 47 k_strings_Builder__WriteString ds r_strings_Builder__WriteString (s_strings_Builder__WriteString ds) := spec_of_strings_Builder__WriteString law_strings_Builder__WriteString
/- (*strings.Builder).Len -/
def k_strings_Builder__Len : List K := [(.obj 76 [.sp, (.gro 5 [(.int .u8)])])]
def r_strings_Builder__Len : List K := [(.one (.int .i64))]
def b_strings_Builder__Len : List Blk := []
noncomputable def c_strings_Builder__Len : Ctx := mkCtx Tryd.prog lay Tryd.f46 ⟨[], [], []⟩ k_strings_Builder__Len r_strings_Builder__Len [] b_strings_Builder__Len
def t_strings_Builder__Len : T :=
 (.ret [(.len (.v 1 (.slc [(.int .u8)]))), (.v 0 .bool), (.v 1 (.slc [(.int .u8)]))])
def B_strings_Builder__Len : Nat → T
  | _ => .dead
theorem ok_strings_Builder__Len : c_strings_Builder__Len.Ok 46 B_strings_Builder__Len := ok_of Tryd.func46 (by kernel_rfl) mixed
  (.nil)
theorem correct_strings_Builder__Len {ds rs : List D} (h : Ev (Corr Tryd.prog lay) B_strings_Builder__Len t_strings_Builder__Len ds rs) : Corr Tryd.prog lay 46 k_strings_Builder__Len ds r_strings_Builder__Len rs :=
  correct_of ok_strings_Builder__Len (n := 100000) (t := t_strings_Builder__Len) (by kernel_rfl) (by kernel_rfl) h
def S_strings_Builder__Len : Nat → List D → List D
  | _, _ => []
def P_strings_Builder__Len : Nat → List K → List D → List K → Prop
  | _, _, _, _ => False
theorem use_strings_Builder__Len : ∀ g ks ds rk xs, ByS P_strings_Builder__Len S_strings_Builder__Len g ks ds rk xs → Corr Tryd.prog lay g ks ds rk xs := by
  intro g ks ds rk xs h
  obtain ⟨h1, rfl⟩ := h
  unfold P_strings_Builder__Len at h1
  split at h1
  · exact h1.elim
theorem spec_of_strings_Builder__Len (law : ∀ ds, D.wts (K.tyss k_strings_Builder__Len) ds → p_strings_Builder__Len ds → Ev (ByS P_strings_Builder__Len S_strings_Builder__Len) B_strings_Builder__Len t_strings_Builder__Len ds (s_strings_Builder__Len ds)) : ∀ ds, p_strings_Builder__Len ds → Corr Tryd.prog lay 46 k_strings_Builder__Len ds r_strings_Builder__Len (s_strings_Builder__Len ds) :=
  fun ds hp => .of_wt (by decide) fun hw => correct_strings_Builder__Len ((law ds hw hp).monoC use_strings_Builder__Len)
theorem law_strings_Builder__Len (ds : List D) (hw : D.wts (K.tyss k_strings_Builder__Len) ds) (hp : p_strings_Builder__Len ds) : Ev (ByS P_strings_Builder__Len S_strings_Builder__Len) B_strings_Builder__Len t_strings_Builder__Len ds (s_strings_Builder__Len ds) := by
  obtain ⟨a0, _, rfl, ha0, a1, _, rfl, ha1, rfl⟩ := hw
  obtain ⟨x0, rfl⟩ := ha0
  obtain ⟨x1, rfl, la1, wa1⟩ := ha1
  simp [t_strings_Builder__Len, s_strings_Builder__Len, Ev.ret_iff, E.dens, E.den]

theorem spec_strings_Builder__Len : ∀ ds, p_strings_Builder__Len ds → Corr Tryd.prog lay 46 k_strings_Builder__Len ds r_strings_Builder__Len (s_strings_Builder__Len ds) := spec_of_strings_Builder__Len law_strings_Builder__Len
def k_strings_Builder__String : List K := [(.obj 76 [.sp, (.gro 5 [(.int .u8)])])]
def r_strings_Builder__String : List K := [(.one .str)]
theorem spec_strings_Builder__String : ∀ ds, p_strings_Builder__String ds → Corr Tryd.prog lay 49 k_strings_Builder__String ds r_strings_Builder__String (s_strings_Builder__String ds) := fun ds hp => corr_String (u8 := 5) string_run ds hp
/- familycheck/protocol.FormatLinear -/
def k_protocol_FormatLinear : List K := [(.agg [(.int .i64), (.int .i64), (.int .i64), (.int .i64)])]
def r_protocol_FormatLinear : List K := [(.one .str)]
def b_protocol_FormatLinear : List Blk := [{ st := [.code [0, 0, 0, 1, 0, 1, 1, 1], .code [1, 0, 0, 1, 0, 1, 1, 1], .inLoop [0, 1, 0, 1, 1, 1], .inBlock 0, .code [1, 1, 1, 1]], σ := { t := [(2, (.sc (.v 6 .str))), (3, (.ptr 2 0)), (22, (.sc (.v 7 (.slc [(.int .i64), .str])))), (23, (.sc (.v 8 (.int .i64)))), (24, (.sc (.v 9 (.int .i64))))], o := [(.box 23 [(.sc (.v 1 (.int .i64))), (.sc (.v 2 (.int .i64))), (.sc (.v 3 (.int .i64))), (.sc (.v 4 (.int .i64)))]), (.tok 5 1 (.v 0 (.slc [(.int .u8)]))), (.box 76 [(.sp 2 (.v 5 .bool)), (.gro 1 (.v 0 (.slc [(.int .u8)])))])] }, tys := [(.slc [(.int .u8)]), (.int .i64), (.int .i64), (.int .i64), (.int .i64), .bool, .str, (.slc [(.int .i64), .str]), (.int .i64), (.int .i64)] }]
noncomputable def c_protocol_FormatLinear : Ctx := mkCtx Tryd.prog lay Tryd.f24 ⟨[(20, [(.one .bool)]), (45, [.unk]), (46, [(.one (.int .i64))]), (47, [(.one (.int .i64)), .unk]), (48, [(.one .str)]), (49, [(.one .str)])], [(45, [some (76, [.sp, (.gro 5 [(.int .u8)])])]), (46, [some (76, [.sp, (.gro 5 [(.int .u8)])])]), (47, [some (76, [.sp, (.gro 5 [(.int .u8)])])]), (49, [some (76, [.sp, (.gro 5 [(.int .u8)])])])], [3]⟩ k_protocol_FormatLinear r_protocol_FormatLinear [(5, 0)] b_protocol_FormatLinear
def t_protocol_FormatLinear : T :=
 (.call 20 [(.agg [(.int .i64), (.int .i64), (.int .i64), (.int .i64)])] [(.v 0 (.int .i64)), (.v 1 (.int .i64)), (.v 2 (.int .i64)), (.v 3 (.int .i64))] [(.one .bool)]
 (.ite (.not (.v 4 .bool))
  (.ret [(.s ⟨#[]⟩)])
  (.jump 0 [(.lit [(.int .u8)] []), (.v 0 (.int .i64)), (.v 1 (.int .i64)), (.v 2 (.int .i64)), (.v 3 (.int .i64)), (.b false), (.s ⟨#[]⟩), (.lit [(.int .i64), .str] [[(.v 1 (.int .i64)), (.s ⟨#[110]⟩)], [(.v 2 (.int .i64)), (.s ⟨#[116]⟩)], [(.v 3 (.int .i64)), (.s ⟨#[102]⟩)], [(.v 0 (.int .i64)), (.s ⟨#[]⟩)]]), (.len (.lit [(.int .i64), .str] [[(.v 1 (.int .i64)), (.s ⟨#[110]⟩)], [(.v 2 (.int .i64)), (.s ⟨#[116]⟩)], [(.v 3 (.int .i64)), (.s ⟨#[102]⟩)], [(.v 0 (.int .i64)), (.s ⟨#[]⟩)]])), (.n .i64 0)])))
def t0_protocol_FormatLinear : T :=
 (.ite (.cmp .lss (.v 9 (.int .i64)) (.v 8 (.int .i64)))
  (.guard (.and (.cmp .geq (.v 9 (.int .i64)) (.n .i64 0)) (.cmp .lss (.v 9 (.int .i64)) (.len (.v 7 (.slc [(.int .i64), .str])))))
  (.ite (.cmp .eql (.cell (.v 7 (.slc [(.int .i64), .str])) (.v 9 (.int .i64)) 0 (.int .i64)) (.n .i64 0))
   (.jump 0 [(.v 0 (.slc [(.int .u8)])), (.v 1 (.int .i64)), (.v 2 (.int .i64)), (.v 3 (.int .i64)), (.v 4 (.int .i64)), (.v 5 .bool), (.v 6 .str), (.v 7 (.slc [(.int .i64), .str])), (.v 8 (.int .i64)), (.ar .add .i64 (.v 9 (.int .i64)) (.n .i64 1))])
   (.ite (.cmp .lss (.cell (.v 7 (.slc [(.int .i64), .str])) (.v 9 (.int .i64)) 0 (.int .i64)) (.n .i64 0))
    (.call 45 [(.obj 76 [.sp, (.gro 5 [(.int .u8)])]), (.one (.int .u8))] [(.v 5 .bool), (.v 0 (.slc [(.int .u8)])), (.n .u8 45)] [.unk]
    (.ite (.scmp .eql (.cell (.v 7 (.slc [(.int .i64), .str])) (.v 9 (.int .i64)) 1 .str) (.s ⟨#[]⟩))
     (.call 48 [(.one (.int .i64))] [(.ite (.cmp .gtr (.neg .i64 (.cell (.v 7 (.slc [(.int .i64), .str])) (.v 9 (.int .i64)) 0 (.int .i64))) (.cell (.v 7 (.slc [(.int .i64), .str])) (.v 9 (.int .i64)) 0 (.int .i64))) (.neg .i64 (.cell (.v 7 (.slc [(.int .i64), .str])) (.v 9 (.int .i64)) 0 (.int .i64))) (.cell (.v 7 (.slc [(.int .i64), .str])) (.v 9 (.int .i64)) 0 (.int .i64)))] [(.one .str)]
     (.call 47 [(.obj 76 [.sp, (.gro 5 [(.int .u8)])]), (.one .str)] [(.v 10 .bool), (.v 11 (.slc [(.int .u8)])), (.v 12 .str)] [(.one (.int .i64)), .unk]
     (.jump 0 [(.v 15 (.slc [(.int .u8)])), (.v 1 (.int .i64)), (.v 2 (.int .i64)), (.v 3 (.int .i64)), (.v 4 (.int .i64)), (.v 14 .bool), (.v 6 .str), (.v 7 (.slc [(.int .i64), .str])), (.v 8 (.int .i64)), (.ar .add .i64 (.v 9 (.int .i64)) (.n .i64 1))])))
     (.ite (.cmp .eql (.ite (.cmp .gtr (.neg .i64 (.cell (.v 7 (.slc [(.int .i64), .str])) (.v 9 (.int .i64)) 0 (.int .i64))) (.cell (.v 7 (.slc [(.int .i64), .str])) (.v 9 (.int .i64)) 0 (.int .i64))) (.neg .i64 (.cell (.v 7 (.slc [(.int .i64), .str])) (.v 9 (.int .i64)) 0 (.int .i64))) (.cell (.v 7 (.slc [(.int .i64), .str])) (.v 9 (.int .i64)) 0 (.int .i64))) (.n .i64 1))
      (.call 47 [(.obj 76 [.sp, (.gro 5 [(.int .u8)])]), (.one .str)] [(.v 10 .bool), (.v 11 (.slc [(.int .u8)])), (.cell (.v 7 (.slc [(.int .i64), .str])) (.v 9 (.int .i64)) 1 .str)] [(.one (.int .i64)), .unk]
      (.jump 0 [(.v 14 (.slc [(.int .u8)])), (.v 1 (.int .i64)), (.v 2 (.int .i64)), (.v 3 (.int .i64)), (.v 4 (.int .i64)), (.v 13 .bool), (.v 6 .str), (.v 7 (.slc [(.int .i64), .str])), (.v 8 (.int .i64)), (.ar .add .i64 (.v 9 (.int .i64)) (.n .i64 1))]))
      (.call 48 [(.one (.int .i64))] [(.ite (.cmp .gtr (.neg .i64 (.cell (.v 7 (.slc [(.int .i64), .str])) (.v 9 (.int .i64)) 0 (.int .i64))) (.cell (.v 7 (.slc [(.int .i64), .str])) (.v 9 (.int .i64)) 0 (.int .i64))) (.neg .i64 (.cell (.v 7 (.slc [(.int .i64), .str])) (.v 9 (.int .i64)) 0 (.int .i64))) (.cell (.v 7 (.slc [(.int .i64), .str])) (.v 9 (.int .i64)) 0 (.int .i64)))] [(.one .str)]
      (.guard (.catOk (.v 12 .str) (.s ⟨#[42]⟩))
      (.guard (.catOk (.cat (.v 12 .str) (.s ⟨#[42]⟩)) (.cell (.v 7 (.slc [(.int .i64), .str])) (.v 9 (.int .i64)) 1 .str))
      (.call 47 [(.obj 76 [.sp, (.gro 5 [(.int .u8)])]), (.one .str)] [(.v 10 .bool), (.v 11 (.slc [(.int .u8)])), (.cat (.cat (.v 12 .str) (.s ⟨#[42]⟩)) (.cell (.v 7 (.slc [(.int .i64), .str])) (.v 9 (.int .i64)) 1 .str))] [(.one (.int .i64)), .unk]
      (.jump 0 [(.v 15 (.slc [(.int .u8)])), (.v 1 (.int .i64)), (.v 2 (.int .i64)), (.v 3 (.int .i64)), (.v 4 (.int .i64)), (.v 14 .bool), (.v 6 .str), (.v 7 (.slc [(.int .i64), .str])), (.v 8 (.int .i64)), (.ar .add .i64 (.v 9 (.int .i64)) (.n .i64 1))]))))))))
    (.call 46 [(.obj 76 [.sp, (.gro 5 [(.int .u8)])])] [(.v 5 .bool), (.v 0 (.slc [(.int .u8)]))] [(.one (.int .i64))]
    (.ite (.cmp .gtr (.v 10 (.int .i64)) (.n .i64 0))
     (.call 45 [(.obj 76 [.sp, (.gro 5 [(.int .u8)])]), (.one (.int .u8))] [(.v 11 .bool), (.v 12 (.slc [(.int .u8)])), (.n .u8 43)] [.unk]
     (.ite (.scmp .eql (.cell (.v 7 (.slc [(.int .i64), .str])) (.v 9 (.int .i64)) 1 .str) (.s ⟨#[]⟩))
      (.call 48 [(.one (.int .i64))] [(.ite (.cmp .gtr (.neg .i64 (.cell (.v 7 (.slc [(.int .i64), .str])) (.v 9 (.int .i64)) 0 (.int .i64))) (.cell (.v 7 (.slc [(.int .i64), .str])) (.v 9 (.int .i64)) 0 (.int .i64))) (.neg .i64 (.cell (.v 7 (.slc [(.int .i64), .str])) (.v 9 (.int .i64)) 0 (.int .i64))) (.cell (.v 7 (.slc [(.int .i64), .str])) (.v 9 (.int .i64)) 0 (.int .i64)))] [(.one .str)]
      (.call 47 [(.obj 76 [.sp, (.gro 5 [(.int .u8)])]), (.one .str)] [(.v 13 .bool), (.v 14 (.slc [(.int .u8)])), (.v 15 .str)] [(.one (.int .i64)), .unk]
      (.jump 0 [(.v 18 (.slc [(.int .u8)])), (.v 1 (.int .i64)), (.v 2 (.int .i64)), (.v 3 (.int .i64)), (.v 4 (.int .i64)), (.v 17 .bool), (.v 6 .str), (.v 7 (.slc [(.int .i64), .str])), (.v 8 (.int .i64)), (.ar .add .i64 (.v 9 (.int .i64)) (.n .i64 1))])))
      (.ite (.cmp .eql (.ite (.cmp .gtr (.neg .i64 (.cell (.v 7 (.slc [(.int .i64), .str])) (.v 9 (.int .i64)) 0 (.int .i64))) (.cell (.v 7 (.slc [(.int .i64), .str])) (.v 9 (.int .i64)) 0 (.int .i64))) (.neg .i64 (.cell (.v 7 (.slc [(.int .i64), .str])) (.v 9 (.int .i64)) 0 (.int .i64))) (.cell (.v 7 (.slc [(.int .i64), .str])) (.v 9 (.int .i64)) 0 (.int .i64))) (.n .i64 1))
       (.call 47 [(.obj 76 [.sp, (.gro 5 [(.int .u8)])]), (.one .str)] [(.v 13 .bool), (.v 14 (.slc [(.int .u8)])), (.cell (.v 7 (.slc [(.int .i64), .str])) (.v 9 (.int .i64)) 1 .str)] [(.one (.int .i64)), .unk]
       (.jump 0 [(.v 17 (.slc [(.int .u8)])), (.v 1 (.int .i64)), (.v 2 (.int .i64)), (.v 3 (.int .i64)), (.v 4 (.int .i64)), (.v 16 .bool), (.v 6 .str), (.v 7 (.slc [(.int .i64), .str])), (.v 8 (.int .i64)), (.ar .add .i64 (.v 9 (.int .i64)) (.n .i64 1))]))
       (.call 48 [(.one (.int .i64))] [(.ite (.cmp .gtr (.neg .i64 (.cell (.v 7 (.slc [(.int .i64), .str])) (.v 9 (.int .i64)) 0 (.int .i64))) (.cell (.v 7 (.slc [(.int .i64), .str])) (.v 9 (.int .i64)) 0 (.int .i64))) (.neg .i64 (.cell (.v 7 (.slc [(.int .i64), .str])) (.v 9 (.int .i64)) 0 (.int .i64))) (.cell (.v 7 (.slc [(.int .i64), .str])) (.v 9 (.int .i64)) 0 (.int .i64)))] [(.one .str)]
       (.guard (.catOk (.v 15 .str) (.s ⟨#[42]⟩))
       (.guard (.catOk (.cat (.v 15 .str) (.s ⟨#[42]⟩)) (.cell (.v 7 (.slc [(.int .i64), .str])) (.v 9 (.int .i64)) 1 .str))
       (.call 47 [(.obj 76 [.sp, (.gro 5 [(.int .u8)])]), (.one .str)] [(.v 13 .bool), (.v 14 (.slc [(.int .u8)])), (.cat (.cat (.v 15 .str) (.s ⟨#[42]⟩)) (.cell (.v 7 (.slc [(.int .i64), .str])) (.v 9 (.int .i64)) 1 .str))] [(.one (.int .i64)), .unk]
       (.jump 0 [(.v 18 (.slc [(.int .u8)])), (.v 1 (.int .i64)), (.v 2 (.int .i64)), (.v 3 (.int .i64)), (.v 4 (.int .i64)), (.v 17 .bool), (.v 6 .str), (.v 7 (.slc [(.int .i64), .str])), (.v 8 (.int .i64)), (.ar .add .i64 (.v 9 (.int .i64)) (.n .i64 1))]))))))))
     (.ite (.scmp .eql (.cell (.v 7 (.slc [(.int .i64), .str])) (.v 9 (.int .i64)) 1 .str) (.s ⟨#[]⟩))
      (.call 48 [(.one (.int .i64))] [(.ite (.cmp .gtr (.neg .i64 (.cell (.v 7 (.slc [(.int .i64), .str])) (.v 9 (.int .i64)) 0 (.int .i64))) (.cell (.v 7 (.slc [(.int .i64), .str])) (.v 9 (.int .i64)) 0 (.int .i64))) (.neg .i64 (.cell (.v 7 (.slc [(.int .i64), .str])) (.v 9 (.int .i64)) 0 (.int .i64))) (.cell (.v 7 (.slc [(.int .i64), .str])) (.v 9 (.int .i64)) 0 (.int .i64)))] [(.one .str)]
      (.call 47 [(.obj 76 [.sp, (.gro 5 [(.int .u8)])]), (.one .str)] [(.v 11 .bool), (.v 12 (.slc [(.int .u8)])), (.v 13 .str)] [(.one (.int .i64)), .unk]
      (.jump 0 [(.v 16 (.slc [(.int .u8)])), (.v 1 (.int .i64)), (.v 2 (.int .i64)), (.v 3 (.int .i64)), (.v 4 (.int .i64)), (.v 15 .bool), (.v 6 .str), (.v 7 (.slc [(.int .i64), .str])), (.v 8 (.int .i64)), (.ar .add .i64 (.v 9 (.int .i64)) (.n .i64 1))])))
      (.ite (.cmp .eql (.ite (.cmp .gtr (.neg .i64 (.cell (.v 7 (.slc [(.int .i64), .str])) (.v 9 (.int .i64)) 0 (.int .i64))) (.cell (.v 7 (.slc [(.int .i64), .str])) (.v 9 (.int .i64)) 0 (.int .i64))) (.neg .i64 (.cell (.v 7 (.slc [(.int .i64), .str])) (.v 9 (.int .i64)) 0 (.int .i64))) (.cell (.v 7 (.slc [(.int .i64), .str])) (.v 9 (.int .i64)) 0 (.int .i64))) (.n .i64 1))
       (.call 47 [(.obj 76 [.sp, (.gro 5 [(.int .u8)])]), (.one .str)] [(.v 11 .bool), (.v 12 (.slc [(.int .u8)])), (.cell (.v 7 (.slc [(.int .i64), .str])) (.v 9 (.int .i64)) 1 .str)] [(.one (.int .i64)), .unk]
       (.jump 0 [(.v 15 (.slc [(.int .u8)])), (.v 1 (.int .i64)), (.v 2 (.int .i64)), (.v 3 (.int .i64)), (.v 4 (.int .i64)), (.v 14 .bool), (.v 6 .str), (.v 7 (.slc [(.int .i64), .str])), (.v 8 (.int .i64)), (.ar .add .i64 (.v 9 (.int .i64)) (.n .i64 1))]))
       (.call 48 [(.one (.int .i64))] [(.ite (.cmp .gtr (.neg .i64 (.cell (.v 7 (.slc [(.int .i64), .str])) (.v 9 (.int .i64)) 0 (.int .i64))) (.cell (.v 7 (.slc [(.int .i64), .str])) (.v 9 (.int .i64)) 0 (.int .i64))) (.neg .i64 (.cell (.v 7 (.slc [(.int .i64), .str])) (.v 9 (.int .i64)) 0 (.int .i64))) (.cell (.v 7 (.slc [(.int .i64), .str])) (.v 9 (.int .i64)) 0 (.int .i64)))] [(.one .str)]
       (.guard (.catOk (.v 13 .str) (.s ⟨#[42]⟩))
       (.guard (.catOk (.cat (.v 13 .str) (.s ⟨#[42]⟩)) (.cell (.v 7 (.slc [(.int .i64), .str])) (.v 9 (.int .i64)) 1 .str))
       (.call 47 [(.obj 76 [.sp, (.gro 5 [(.int .u8)])]), (.one .str)] [(.v 11 .bool), (.v 12 (.slc [(.int .u8)])), (.cat (.cat (.v 13 .str) (.s ⟨#[42]⟩)) (.cell (.v 7 (.slc [(.int .i64), .str])) (.v 9 (.int .i64)) 1 .str))] [(.one (.int .i64)), .unk]
       (.jump 0 [(.v 16 (.slc [(.int .u8)])), (.v 1 (.int .i64)), (.v 2 (.int .i64)), (.v 3 (.int .i64)), (.v 4 (.int .i64)), (.v 15 .bool), (.v 6 .str), (.v 7 (.slc [(.int .i64), .str])), (.v 8 (.int .i64)), (.ar .add .i64 (.v 9 (.int .i64)) (.n .i64 1))]))))))))))))
  (.call 46 [(.obj 76 [.sp, (.gro 5 [(.int .u8)])])] [(.v 5 .bool), (.v 0 (.slc [(.int .u8)]))] [(.one (.int .i64))]
  (.ite (.cmp .eql (.v 10 (.int .i64)) (.n .i64 0))
   (.ret [(.s ⟨#[48]⟩)])
   (.call 49 [(.obj 76 [.sp, (.gro 5 [(.int .u8)])])] [(.v 11 .bool), (.v 12 (.slc [(.int .u8)]))] [(.one .str)]
   (.ret [(.v 13 .str)])))))
def B_protocol_FormatLinear : Nat → T
  | 0 => t0_protocol_FormatLinear
  | _ => .dead
theorem ok_protocol_FormatLinear : c_protocol_FormatLinear.Ok 24 B_protocol_FormatLinear := ok_of Tryd.func24 (by kernel_rfl) mixed
  (.cons (n := 100000) (by kernel_rfl) (.nil))
theorem correct_protocol_FormatLinear {ds rs : List D} (h : Ev (Corr Tryd.prog lay) B_protocol_FormatLinear t_protocol_FormatLinear ds rs) : Corr Tryd.prog lay 24 k_protocol_FormatLinear ds r_protocol_FormatLinear rs :=
  correct_of ok_protocol_FormatLinear (n := 100000) (t := t_protocol_FormatLinear) (by kernel_rfl) (by kernel_rfl) h
def S_protocol_FormatLinear : Nat → List D → List D
  | 20, ds => s_protocol_bounded ds
  | 45, ds => s_strings_Builder__WriteByte ds
  | 48, ds => s_strconv_Itoa ds
  | 47, ds => s_strings_Builder__WriteString ds
  | 46, ds => s_strings_Builder__Len ds
  | 49, ds => s_strings_Builder__String ds
  | _, _ => []
def P_protocol_FormatLinear : Nat → List K → List D → List K → Prop
  | 20, ks, ds, rk => ks = k_protocol_bounded ∧ rk = r_protocol_bounded ∧ p_protocol_bounded ds
  | 45, ks, ds, rk => ks = k_strings_Builder__WriteByte ∧ rk = r_strings_Builder__WriteByte ∧ p_strings_Builder__WriteByte ds
  | 48, ks, ds, rk => ks = k_strconv_Itoa ∧ rk = r_strconv_Itoa ∧ p_strconv_Itoa ds
  | 47, ks, ds, rk => ks = k_strings_Builder__WriteString ∧ rk = r_strings_Builder__WriteString ∧ p_strings_Builder__WriteString ds
  | 46, ks, ds, rk => ks = k_strings_Builder__Len ∧ rk = r_strings_Builder__Len ∧ p_strings_Builder__Len ds
  | 49, ks, ds, rk => ks = k_strings_Builder__String ∧ rk = r_strings_Builder__String ∧ p_strings_Builder__String ds
  | _, _, _, _ => False
theorem use_protocol_FormatLinear : ∀ g ks ds rk xs, ByS P_protocol_FormatLinear S_protocol_FormatLinear g ks ds rk xs → Corr Tryd.prog lay g ks ds rk xs := by
  intro g ks ds rk xs h
  obtain ⟨h1, rfl⟩ := h
  unfold P_protocol_FormatLinear at h1
  split at h1
  · obtain ⟨rfl, rfl, h1⟩ := h1; exact spec_protocol_bounded ds h1
  · obtain ⟨rfl, rfl, h1⟩ := h1; exact spec_strings_Builder__WriteByte ds h1
  · obtain ⟨rfl, rfl, h1⟩ := h1; exact spec_strconv_Itoa ds h1
  · obtain ⟨rfl, rfl, h1⟩ := h1; exact spec_strings_Builder__WriteString ds h1
  · obtain ⟨rfl, rfl, h1⟩ := h1; exact spec_strings_Builder__Len ds h1
  · obtain ⟨rfl, rfl, h1⟩ := h1; exact spec_strings_Builder__String ds h1
  · exact h1.elim
theorem spec_of_protocol_FormatLinear (law : ∀ ds, D.wts (K.tyss k_protocol_FormatLinear) ds → p_protocol_FormatLinear ds → Ev (ByS P_protocol_FormatLinear S_protocol_FormatLinear) B_protocol_FormatLinear t_protocol_FormatLinear ds (s_protocol_FormatLinear ds)) : ∀ ds, p_protocol_FormatLinear ds → Corr Tryd.prog lay 24 k_protocol_FormatLinear ds r_protocol_FormatLinear (s_protocol_FormatLinear ds) :=
  fun ds hp => .of_wt (by decide) fun hw => correct_protocol_FormatLinear ((law ds hw hp).monoC use_protocol_FormatLinear)
theorem guard_catOk {C : Nat → List K → List D → List K → List D → Prop} {B : Nat → T} {a b : E} {t : T} {η : Env} {rs : List D} : Ev C B (.guard (.catOk a b) t) η rs ↔ ((a.den η).toS.size + (b.den η).toS.size ≤ 9223372036854775807) ∧ Ev C B t η rs := by
  rw [Ev.guard_iff]
  simp only [E.den, D.toB_bool, decide_eq_true_eq]
  constructor
  · rintro ⟨h, h'⟩; exact ⟨by omega, h'⟩
  · rintro ⟨h, h'⟩; exact ⟨by omega, h'⟩
theorem fmt_max {η : Env} {e : E} {x : Int} (h : E.den η e = .int .i64 x) (hx : small x) : E.den η (.ite (.cmp .gtr (.neg .i64 e) e) (.neg .i64 e) e) = .int .i64 x.natAbs := by
  unfold small at hx
  have hw : IntKind.i64.wrap (0 - x) = -x := by rw [wrap64 (by omega) (by omega)]; omega
  simp only [E.den, h, D.toI, hw, cmpD, D.toB_bool, decide_eq_true_eq]
  split
  · congr 1; omega
  · congr 1; omega
set_option maxRecDepth 20000 in
theorem step_protocol_FormatLinear (R : List (List D)) (i : Nat) (acc : List UInt8) (x : Int) (nm : List UInt8) (hR : R.getD i [] = [.int .i64 x, .str ⟨nm.toArray⟩]) (hi : i < 4) (hl : R.length = 4) (hacc : acc.length ≤ 200) (hx : small x) (hnm : nm.length ≤ 1) (a1 a2 a3 a4 s6 : D) (bb : Bool) (rs : List D)
    (next : ∀ b', Ev (ByS P_protocol_FormatLinear S_protocol_FormatLinear) B_protocol_FormatLinear (B_protocol_FormatLinear 0) [.slc (bytesD (fmtTerm acc x nm)), a1, a2, a3, a4, .bool b', s6, .slc R, .int .i64 4, .int .i64 (i + 1 : Nat)] rs) :
    Ev (ByS P_protocol_FormatLinear S_protocol_FormatLinear) B_protocol_FormatLinear (B_protocol_FormatLinear 0) [.slc (bytesD acc), a1, a2, a3, a4, .bool bb, s6, .slc R, .int .i64 4, .int .i64 i] rs := by
  have hw : IntKind.i64.wrap ((i : Int) + 1) = (i : Int) + 1 := by rw [wrap64 (by omega) (by omega)]
  have hbl : ∀ l : List UInt8, (bytesD l).length = l.length := fun l => by simp [bytesD]
  have hba : ∀ (a b : List UInt8), bytesD a ++ bytesD b = bytesD (a ++ b) := fun a b => by simp [bytesD]
  have hb43 : ∀ a : List UInt8, bytesD a ++ [[D.int .u8 43]] = bytesD (a ++ [43]) := fun a => by simp [bytesD]
  have hb45 : ∀ a : List UInt8, bytesD a ++ [[D.int .u8 45]] = bytesD (a ++ [45]) := fun a => by simp [bytesD]
  have hit := Lib.itoa_length_le x.natAbs (by omega) (by unfold small at hx; omega)
  have hlt : (i : Int) < 4 := by omega
  have h0 : (0 : Int) ≤ i := by omega
  have hxx := hx
  unfold small at hxx
  have hc0 : ∀ η : Env, η.getD 7 default = .slc R → η.getD 9 default = .int .i64 i → E.den η (.cell (.v 7 (.slc [(.int .i64), .str])) (.v 9 (.int .i64)) 0 (.int .i64)) = .int .i64 x := by
    intro η h7 h9
    simp only [E.den, h7, h9, D.toL, D.toI, Int.toNat_natCast, hR, List.getD_cons_zero]
  have hc1 : ∀ η : Env, η.getD 7 default = .slc R → η.getD 9 default = .int .i64 i → E.den η (.cell (.v 7 (.slc [(.int .i64), .str])) (.v 9 (.int .i64)) 1 .str) = .str ⟨nm.toArray⟩ := by
    intro η h7 h9
    simp only [E.den, h7, h9, D.toL, D.toI, Int.toNat_natCast, hR, List.getD_cons_zero, List.getD_cons_succ]
  have hmx : ∀ η : Env, η.getD 7 default = .slc R → η.getD 9 default = .int .i64 i → E.den η (.ite (.cmp .gtr (.neg .i64 (.cell (.v 7 (.slc [(.int .i64), .str])) (.v 9 (.int .i64)) 0 (.int .i64))) (.cell (.v 7 (.slc [(.int .i64), .str])) (.v 9 (.int .i64)) 0 (.int .i64))) (.neg .i64 (.cell (.v 7 (.slc [(.int .i64), .str])) (.v 9 (.int .i64)) 0 (.int .i64))) (.cell (.v 7 (.slc [(.int .i64), .str])) (.v 9 (.int .i64)) 0 (.int .i64))) = .int .i64 x.natAbs :=
    fun η h7 h9 => fmt_max (hc0 η h7 h9) hx
  show Ev _ _ t0_protocol_FormatLinear _ _
  unfold t0_protocol_FormatLinear
  rw [Ev.ite_iff, if_pos (by simp [E.den, cmpD, hlt]), Ev.guard_iff]
  refine ⟨by simp [E.den, cmpD, hlt, hl], ?_⟩
  by_cases hx0 : x = 0
  · rw [Ev.ite_iff, if_pos (by rw [E.den, hc0 _ rfl rfl]; simp [cmpD, E.den, hx0]), Ev.jump_iff]
    have := next bb
    rw [fmtTerm, if_pos hx0] at this
    simpa [E.dens, E.den, arD, hw] using this
  rw [Ev.ite_iff, if_neg (by rw [E.den, hc0 _ rfl rfl]; simp [cmpD, E.den, hx0])]
  have ht : fmtTerm acc x nm = fmtSign acc x ++ fmtBody x nm := by rw [fmtTerm, if_neg hx0]
  have next' := next true
  rw [ht] at next'
  have hsz : ∀ l : List UInt8, (ByteArray.mk l.toArray).size = l.length := fun l => by simp [ByteArray.size]
  have hcat : ∀ a b : List UInt8, (ByteArray.mk a.toArray ++ ByteArray.mk b.toArray) = ByteArray.mk (a ++ b).toArray := fun a b => by
    apply ByteArray.ext; simp [ByteArray.data_append]
  have hem : ByteArray.mk #[] = ByteArray.mk ([] : List UInt8).toArray := rfl
  have h42 : ByteArray.mk #[42] = ByteArray.mk ([42] : List UInt8).toArray := rfl
  have next0 := next'
  rw [fmtSign, fmtBody] at next'
  by_cases hs : x < 0
  · rw [Ev.ite_iff, if_pos (by rw [E.den, hc0 _ rfl rfl]; simp [cmpD, E.den, hs])]
    rw [if_pos hs] at next'
    by_cases hn : nm = []
    · rw [if_pos hn] at next'
      simp [Ev.ite_iff, ↓guard_catOk, Ev.guard_iff, Ev.ret_iff, Ev.jump_iff, Ev.call_iff, E.dens, ↓hmx, ↓hc0, ↓hc1, E.den, cmpD, arD, scmpD_eql, hw, P_protocol_FormatLinear, S_protocol_FormatLinear, k_strings_Builder__WriteByte, r_strings_Builder__WriteByte, s_strings_Builder__WriteByte, p_strings_Builder__WriteByte, k_strings_Builder__WriteString, r_strings_Builder__WriteString, s_strings_Builder__WriteString, p_strings_Builder__WriteString, k_strings_Builder__Len, r_strings_Builder__Len, s_strings_Builder__Len, p_strings_Builder__Len, k_strconv_Itoa, r_strconv_Itoa, s_strconv_Itoa, p_strconv_Itoa, K.rts, K.otyss, K.otys, CK.tyss, CK.tys, K.tyss, K.tys, hb43, hb45, hba, hbl, hn]
      try simp only [h42, hcat, hsz, List.length_append, List.length_singleton]
      and_intros
      all_goals first | omega | (simpa using next')
    · rw [if_neg hn] at next'
      by_cases h1 : x.natAbs = 1
      · rw [if_pos h1] at next'
        have h1' : (x.natAbs : Int) = 1 := by omega
        simp [Ev.ite_iff, ↓guard_catOk, Ev.guard_iff, Ev.ret_iff, Ev.jump_iff, Ev.call_iff, E.dens, ↓hmx, ↓hc0, ↓hc1, E.den, cmpD, arD, scmpD_eql, hw, P_protocol_FormatLinear, S_protocol_FormatLinear, k_strings_Builder__WriteByte, r_strings_Builder__WriteByte, s_strings_Builder__WriteByte, p_strings_Builder__WriteByte, k_strings_Builder__WriteString, r_strings_Builder__WriteString, s_strings_Builder__WriteString, p_strings_Builder__WriteString, k_strings_Builder__Len, r_strings_Builder__Len, s_strings_Builder__Len, p_strings_Builder__Len, k_strconv_Itoa, r_strconv_Itoa, s_strconv_Itoa, p_strconv_Itoa, K.rts, K.otyss, K.otys, CK.tyss, CK.tys, K.tyss, K.tys, hb43, hb45, hba, hbl, hn, h1']
        try simp only [h42, hcat, hsz, List.length_append, List.length_singleton]
        and_intros
        all_goals first | omega | (simpa using next')
      · rw [if_neg h1] at next'
        have h1' : ¬ ((x.natAbs : Int) = 1) := by omega
        simp [Ev.ite_iff, ↓guard_catOk, Ev.guard_iff, Ev.ret_iff, Ev.jump_iff, Ev.call_iff, E.dens, ↓hmx, ↓hc0, ↓hc1, E.den, cmpD, arD, scmpD_eql, hw, P_protocol_FormatLinear, S_protocol_FormatLinear, k_strings_Builder__WriteByte, r_strings_Builder__WriteByte, s_strings_Builder__WriteByte, p_strings_Builder__WriteByte, k_strings_Builder__WriteString, r_strings_Builder__WriteString, s_strings_Builder__WriteString, p_strings_Builder__WriteString, k_strings_Builder__Len, r_strings_Builder__Len, s_strings_Builder__Len, p_strings_Builder__Len, k_strconv_Itoa, r_strconv_Itoa, s_strconv_Itoa, p_strconv_Itoa, K.rts, K.otyss, K.otys, CK.tyss, CK.tys, K.tyss, K.tys, hb43, hb45, hba, hbl, hn, h1']
        try simp only [h42, hcat, hsz, List.length_append, List.length_singleton]
        and_intros
        all_goals first | omega | (simpa using next')
  · rw [Ev.ite_iff, if_neg (by rw [E.den, hc0 _ rfl rfl]; simp [cmpD, E.den]; exact decide_eq_false hs)]
    rw [if_neg hs] at next'
    by_cases ha : acc = []
    · rw [if_pos ha] at next'
      subst ha
      have hb0 : (bytesD []).length = 0 := rfl
      by_cases hn : nm = []
      · rw [if_pos hn] at next'
        simp [Ev.ite_iff, ↓guard_catOk, Ev.guard_iff, Ev.ret_iff, Ev.jump_iff, Ev.call_iff, E.dens, ↓hmx, ↓hc0, ↓hc1, E.den, cmpD, arD, scmpD_eql, hw, P_protocol_FormatLinear, S_protocol_FormatLinear, k_strings_Builder__WriteByte, r_strings_Builder__WriteByte, s_strings_Builder__WriteByte, p_strings_Builder__WriteByte, k_strings_Builder__WriteString, r_strings_Builder__WriteString, s_strings_Builder__WriteString, p_strings_Builder__WriteString, k_strings_Builder__Len, r_strings_Builder__Len, s_strings_Builder__Len, p_strings_Builder__Len, k_strconv_Itoa, r_strconv_Itoa, s_strconv_Itoa, p_strconv_Itoa, K.rts, K.otyss, K.otys, CK.tyss, CK.tys, K.tyss, K.tys, hb43, hb45, hba, hbl, hn, hb0]
        try simp only [h42, hcat, hsz, List.length_append, List.length_singleton]
        and_intros
        all_goals first | omega | (simpa using next')
      · rw [if_neg hn] at next'
        by_cases h1 : x.natAbs = 1
        · rw [if_pos h1] at next'
          have h1' : (x.natAbs : Int) = 1 := by omega
          simp [Ev.ite_iff, ↓guard_catOk, Ev.guard_iff, Ev.ret_iff, Ev.jump_iff, Ev.call_iff, E.dens, ↓hmx, ↓hc0, ↓hc1, E.den, cmpD, arD, scmpD_eql, hw, P_protocol_FormatLinear, S_protocol_FormatLinear, k_strings_Builder__WriteByte, r_strings_Builder__WriteByte, s_strings_Builder__WriteByte, p_strings_Builder__WriteByte, k_strings_Builder__WriteString, r_strings_Builder__WriteString, s_strings_Builder__WriteString, p_strings_Builder__WriteString, k_strings_Builder__Len, r_strings_Builder__Len, s_strings_Builder__Len, p_strings_Builder__Len, k_strconv_Itoa, r_strconv_Itoa, s_strconv_Itoa, p_strconv_Itoa, K.rts, K.otyss, K.otys, CK.tyss, CK.tys, K.tyss, K.tys, hb43, hb45, hba, hbl, hn, h1', hb0]
          try simp only [h42, hcat, hsz, List.length_append, List.length_singleton]
          and_intros
          all_goals first | omega | (simpa using next')
        · rw [if_neg h1] at next'
          have h1' : ¬ ((x.natAbs : Int) = 1) := by omega
          simp [Ev.ite_iff, ↓guard_catOk, Ev.guard_iff, Ev.ret_iff, Ev.jump_iff, Ev.call_iff, E.dens, ↓hmx, ↓hc0, ↓hc1, E.den, cmpD, arD, scmpD_eql, hw, P_protocol_FormatLinear, S_protocol_FormatLinear, k_strings_Builder__WriteByte, r_strings_Builder__WriteByte, s_strings_Builder__WriteByte, p_strings_Builder__WriteByte, k_strings_Builder__WriteString, r_strings_Builder__WriteString, s_strings_Builder__WriteString, p_strings_Builder__WriteString, k_strings_Builder__Len, r_strings_Builder__Len, s_strings_Builder__Len, p_strings_Builder__Len, k_strconv_Itoa, r_strconv_Itoa, s_strconv_Itoa, p_strconv_Itoa, K.rts, K.otyss, K.otys, CK.tyss, CK.tys, K.tyss, K.tys, hb43, hb45, hba, hbl, hn, h1', hb0]
          try simp only [h42, hcat, hsz, List.length_append, List.length_singleton]
          and_intros
          all_goals first | omega | (simpa using next')
    · rw [if_neg ha] at next'
      have hal : 0 < acc.length := List.length_pos_iff.2 ha
      by_cases hn : nm = []
      · rw [if_pos hn] at next'
        simp [Ev.ite_iff, ↓guard_catOk, Ev.guard_iff, Ev.ret_iff, Ev.jump_iff, Ev.call_iff, E.dens, ↓hmx, ↓hc0, ↓hc1, E.den, cmpD, arD, scmpD_eql, hw, P_protocol_FormatLinear, S_protocol_FormatLinear, k_strings_Builder__WriteByte, r_strings_Builder__WriteByte, s_strings_Builder__WriteByte, p_strings_Builder__WriteByte, k_strings_Builder__WriteString, r_strings_Builder__WriteString, s_strings_Builder__WriteString, p_strings_Builder__WriteString, k_strings_Builder__Len, r_strings_Builder__Len, s_strings_Builder__Len, p_strings_Builder__Len, k_strconv_Itoa, r_strconv_Itoa, s_strconv_Itoa, p_strconv_Itoa, K.rts, K.otyss, K.otys, CK.tyss, CK.tys, K.tyss, K.tys, hb43, hb45, hba, hbl, hn, ha, hal]
        try simp only [h42, hcat, hsz, List.length_append, List.length_singleton]
        and_intros
        all_goals first | omega | (simpa using next')
      · rw [if_neg hn] at next'
        by_cases h1 : x.natAbs = 1
        · rw [if_pos h1] at next'
          have h1' : (x.natAbs : Int) = 1 := by omega
          simp [Ev.ite_iff, ↓guard_catOk, Ev.guard_iff, Ev.ret_iff, Ev.jump_iff, Ev.call_iff, E.dens, ↓hmx, ↓hc0, ↓hc1, E.den, cmpD, arD, scmpD_eql, hw, P_protocol_FormatLinear, S_protocol_FormatLinear, k_strings_Builder__WriteByte, r_strings_Builder__WriteByte, s_strings_Builder__WriteByte, p_strings_Builder__WriteByte, k_strings_Builder__WriteString, r_strings_Builder__WriteString, s_strings_Builder__WriteString, p_strings_Builder__WriteString, k_strings_Builder__Len, r_strings_Builder__Len, s_strings_Builder__Len, p_strings_Builder__Len, k_strconv_Itoa, r_strconv_Itoa, s_strconv_Itoa, p_strconv_Itoa, K.rts, K.otyss, K.otys, CK.tyss, CK.tys, K.tyss, K.tys, hb43, hb45, hba, hbl, hn, h1', ha, hal]
          try simp only [h42, hcat, hsz, List.length_append, List.length_singleton]
          and_intros
          all_goals first | omega | (simpa using next')
        · rw [if_neg h1] at next'
          have h1' : ¬ ((x.natAbs : Int) = 1) := by omega
          simp [Ev.ite_iff, ↓guard_catOk, Ev.guard_iff, Ev.ret_iff, Ev.jump_iff, Ev.call_iff, E.dens, ↓hmx, ↓hc0, ↓hc1, E.den, cmpD, arD, scmpD_eql, hw, P_protocol_FormatLinear, S_protocol_FormatLinear, k_strings_Builder__WriteByte, r_strings_Builder__WriteByte, s_strings_Builder__WriteByte, p_strings_Builder__WriteByte, k_strings_Builder__WriteString, r_strings_Builder__WriteString, s_strings_Builder__WriteString, p_strings_Builder__WriteString, k_strings_Builder__Len, r_strings_Builder__Len, s_strings_Builder__Len, p_strings_Builder__Len, k_strconv_Itoa, r_strconv_Itoa, s_strconv_Itoa, p_strconv_Itoa, K.rts, K.otyss, K.otys, CK.tyss, CK.tys, K.tyss, K.tys, hb43, hb45, hba, hbl, hn, h1', ha, hal]
          try simp only [h42, hcat, hsz, List.length_append, List.length_singleton]
          and_intros
          all_goals first | omega | (simpa using next')
theorem law_protocol_FormatLinear (ds : List D) (hw : D.wts (K.tyss k_protocol_FormatLinear) ds) (hp : p_protocol_FormatLinear ds) : Ev (ByS P_protocol_FormatLinear S_protocol_FormatLinear) B_protocol_FormatLinear t_protocol_FormatLinear ds (s_protocol_FormatLinear ds) := by
  obtain ⟨a0, _, rfl, ha0, a1, _, rfl, ha1, a2, _, rfl, ha2, a3, _, rfl, ha3, rfl⟩ := hw
  obtain ⟨c, rfl⟩ := ha0
  obtain ⟨n, rfl⟩ := ha1
  obtain ⟨t, rfl⟩ := ha2
  obtain ⟨f, rfl⟩ := ha3
  have hbl : ∀ l : List UInt8, (bytesD l).length = l.length := fun l => by simp [bytesD]
  unfold t_protocol_FormatLinear
  rw [Ev.call_iff]
  refine ⟨⟨rfl, rfl, trivial⟩, rfl, ?_⟩
  have hres : s_protocol_FormatLinear [.int .i64 c, .int .i64 n, .int .i64 t, .int .i64 f] = [.str (if fewI c n t f then ⟨(fmtLin c n t f).toArray⟩ else ByteArray.empty)] := rfl
  rw [hres, Ev.ite_iff]
  have hcall : S_protocol_FormatLinear 20 (E.dens [.int .i64 c, .int .i64 n, .int .i64 t, .int .i64 f] [(.v 0 (.int .i64)), (.v 1 (.int .i64)), (.v 2 (.int .i64)), (.v 3 (.int .i64))]) = [.bool (fewI c n t f)] := rfl
  rw [hcall]
  by_cases hfew : fewI c n t f = true
  · rw [if_neg (by simp [E.den, hfew]), if_pos hfew, Ev.jump_iff]
    simp only [E.dens, E.denss, E.den, List.cons_append, List.nil_append, List.getD_cons_zero, List.getD_cons_succ, D.toL, List.length_cons, List.length_nil, Nat.zero_add]
    have hf4 : small c ∧ small n ∧ small t ∧ small f := by
      simpa [fewI] using hfew
    obtain ⟨hc, hn, ht, hf⟩ := hf4
    have l1 := fmtTerm_len [] n [110] hn
    have l2 := fmtTerm_len (fmtTerm [] n [110]) t [116] ht
    have l3 := fmtTerm_len (fmtTerm (fmtTerm [] n [110]) t [116]) f [102] hf
    have l4 := fmtTerm_len (fmtTerm (fmtTerm (fmtTerm [] n [110]) t [116]) f [102]) c [] hc
    simp only [List.length_cons, List.length_nil, Nat.zero_add] at l1 l2 l3 l4
    refine step_protocol_FormatLinear _ 0 [] n [110] rfl (by omega) rfl (by simp) hn (by simp) _ _ _ _ _ _ _ fun b1 => ?_
    refine step_protocol_FormatLinear _ 1 _ t [116] rfl (by omega) rfl (by omega) ht (by simp) _ _ _ _ _ _ _ fun b2 => ?_
    refine step_protocol_FormatLinear _ 2 _ f [102] rfl (by omega) rfl (by omega) hf (by simp) _ _ _ _ _ _ _ fun b3 => ?_
    refine step_protocol_FormatLinear _ 3 _ c [] rfl (by omega) rfl (by omega) hc (by simp) _ _ _ _ _ _ _ fun b4 => ?_
    show Ev _ _ t0_protocol_FormatLinear _ _
    unfold t0_protocol_FormatLinear fmtLin
    generalize fmtTerm (fmtTerm (fmtTerm (fmtTerm [] n [110]) t [116]) f [102]) c [] = r at *
    rw [Ev.ite_iff, if_neg (by simp [E.den, cmpD]), Ev.call_iff]
    refine ⟨⟨rfl, rfl, trivial⟩, rfl, ?_⟩
    rw [Ev.ite_iff]
    by_cases hr : r = []
    · subst hr
      rw [if_pos (by rfl), Ev.ret_iff]
      rfl
    · have hrl : r.length ≠ 0 := fun h => hr (List.length_eq_zero_iff.1 h)
      rw [if_neg (by simp [E.den, E.dens, cmpD, hbl, hr, S_protocol_FormatLinear, s_strings_Builder__Len]), Ev.call_iff]
      refine ⟨⟨rfl, rfl, r, hr, rfl⟩, rfl, ?_⟩
      rw [Ev.ret_iff]
      simp [E.dens, E.den, S_protocol_FormatLinear, s_strings_Builder__Len, s_strings_Builder__String, unB_bytesD, hr]
  · rw [if_pos (by simp [E.den, hfew]), if_neg hfew, Ev.ret_iff]
    rfl

theorem spec_protocol_FormatLinear : ∀ ds, p_protocol_FormatLinear ds → Corr Tryd.prog lay 24 k_protocol_FormatLinear ds r_protocol_FormatLinear (s_protocol_FormatLinear ds) := spec_of_protocol_FormatLinear law_protocol_FormatLinear
def k_strings_Fields : List K := [(.one .str)]
def r_strings_Fields : List K := [(.one (.slc [.str]))]
theorem spec_strings_Fields : ∀ ds, p_strings_Fields ds → Corr Tryd.prog lay 57 k_strings_Fields ds r_strings_Fields (s_strings_Fields ds) := fun ds hp => corr_Fields (u := ("strings.asciiSpace", .u8, Lib.asciiSpaceTab)) (fun w h => (show ∀ x ∈ tables, Lib.TabIs Tryd.prog w x.1 x.2.1 x.2.2 from h) _ (by simp [tables])) (fun s w h0 h1 ht => Tryd.strings_Fields s w h0 h1 ht) ds hp
/- slices.Index[[]string,string] -/
def k_slices_Index_string : List K := [(.one (.slc [.str])), (.one .str)]
def r_slices_Index_string : List K := [(.one (.int .i64))]
def b_slices_Index_string : List Blk := [{ st := [.code [0, 0, 0, 1, 0, 1], .code [1, 0, 0, 1, 0, 1], .inLoop [0, 1, 0, 1], .inBlock 0, .code [1, 1]], σ := { t := [(0, (.sc (.v 0 (.slc [.str])))), (1, (.sc (.v 1 .str))), (4, (.sc (.v 2 (.int .i64)))), (7, (.sc (.v 3 (.int .i64)))), (8, (.sc (.v 4 (.int .i64))))], o := [] }, tys := [(.slc [.str]), .str, (.int .i64), (.int .i64), (.int .i64)] }]
noncomputable def c_slices_Index_string : Ctx := mkCtx Tryd.prog lay Tryd.f61 ⟨[], [], []⟩ k_slices_Index_string r_slices_Index_string [(2, 0)] b_slices_Index_string
def t_slices_Index_string : T :=
 (.jump 0 [(.v 0 (.slc [.str])), (.v 1 .str), (.n .i64 0), (.len (.v 0 (.slc [.str]))), (.n .i64 0)])
def t0_slices_Index_string : T :=
 (.ite (.cmp .lss (.v 4 (.int .i64)) (.v 3 (.int .i64)))
  (.guard (.and (.cmp .geq (.v 4 (.int .i64)) (.n .i64 0)) (.cmp .lss (.v 4 (.int .i64)) (.len (.v 0 (.slc [.str])))))
  (.ite (.scmp .eql (.v 1 .str) (.cell (.v 0 (.slc [.str])) (.v 4 (.int .i64)) 0 .str))
   (.ret [(.v 4 (.int .i64))])
   (.jump 0 [(.v 0 (.slc [.str])), (.v 1 .str), (.v 2 (.int .i64)), (.v 3 (.int .i64)), (.ar .add .i64 (.v 4 (.int .i64)) (.n .i64 1))])))
  (.ret [(.n .i64 (-1))]))
def B_slices_Index_string : Nat → T
  | 0 => t0_slices_Index_string
  | _ => .dead
theorem ok_slices_Index_string : c_slices_Index_string.Ok 61 B_slices_Index_string := ok_of Tryd.func61 (by kernel_rfl) mixed
  (.cons (n := 100000) (by kernel_rfl) (.nil))
theorem correct_slices_Index_string {ds rs : List D} (h : Ev (Corr Tryd.prog lay) B_slices_Index_string t_slices_Index_string ds rs) : Corr Tryd.prog lay 61 k_slices_Index_string ds r_slices_Index_string rs :=
  correct_of ok_slices_Index_string (n := 100000) (t := t_slices_Index_string) (by kernel_rfl) (by kernel_rfl) h
def S_slices_Index_string : Nat → List D → List D
  | _, _ => []
def P_slices_Index_string : Nat → List K → List D → List K → Prop
  | _, _, _, _ => False
theorem use_slices_Index_string : ∀ g ks ds rk xs, ByS P_slices_Index_string S_slices_Index_string g ks ds rk xs → Corr Tryd.prog lay g ks ds rk xs := by
  intro g ks ds rk xs h
  obtain ⟨h1, rfl⟩ := h
  unfold P_slices_Index_string at h1
  split at h1
  · exact h1.elim
theorem spec_of_slices_Index_string (law : ∀ ds, D.wts (K.tyss k_slices_Index_string) ds → p_slices_Index_string ds → Ev (ByS P_slices_Index_string S_slices_Index_string) B_slices_Index_string t_slices_Index_string ds (s_slices_Index_string ds)) : ∀ ds, p_slices_Index_string ds → Corr Tryd.prog lay 61 k_slices_Index_string ds r_slices_Index_string (s_slices_Index_string ds) :=
  fun ds hp => .of_wt (by decide) fun hw => correct_slices_Index_string ((law ds hw hp).monoC use_slices_Index_string)
theorem loop_slices_Index_string (es : List (List D)) (he : es.length ≤ maxLen) (_hwt : ∀ c ∈ es, D.wts [.str] c) (s : ByteArray) (x : D) : ∀ (m i : Nat), es.length - i = m → i ≤ es.length → (∀ j, j < i → (strs (.slc es)).getD j [] ≠ s.data.toList) →
    Ev (ByS P_slices_Index_string S_slices_Index_string) B_slices_Index_string t0_slices_Index_string [.slc es, .str s, x, .int .i64 es.length, .int .i64 i] [I (idxS (strs (.slc es)) s.data.toList)] := by
  have hl : (strs (.slc es)).length = es.length := by simp [strs]
  intro m
  induction m with
  | zero =>
    intro i hm h1 hno
    have hi : i = es.length := by omega
    have hn : (strs (.slc es)).findIdx? (· == s.data.toList) = none := by
      rw [List.findIdx?_eq_none_iff]
      intro y hy
      obtain ⟨j, hj⟩ := List.getElem?_of_mem hy
      have hjl := (List.getElem?_eq_some_iff.1 hj).1
      have := hno j (by omega)
      rw [List.getD_eq_getElem?_getD, hj] at this
      simpa using this
    simp [t0_slices_Index_string, Ev.ite_iff, Ev.guard_iff, Ev.ret_iff, Ev.jump_iff, E.dens, E.den, cmpD, arD, hi, idxS, hn]
  | succ m ih =>
    intro i hm h1 hno
    have hlt : i < es.length := by omega
    have hw : IntKind.i64.wrap ((i : Int) + 1) = ((i + 1 : Nat) : Int) := by rw [wrap64 (by omega) (by unfold maxLen at *; omega)]; simp
    have hget : (strs (.slc es)).getD i [] = txt (es[i][0]?.getD default) := by simp [strs, hlt]
    have hcond : scmpD .eql s (es[i][0]?.getD default).toS = decide ((strs (.slc es)).getD i [] = s.data.toList) := by
      rw [hget, scmpD_eql]
      simp only [txt, eq_comm]
    simp [t0_slices_Index_string, Ev.ite_iff, Ev.guard_iff, Ev.ret_iff, Ev.jump_iff, E.dens, E.den, cmpD, arD, hlt, hw]
    rw [hcond]
    by_cases h : (strs (.slc es)).getD i [] = s.data.toList
    · rw [if_pos (by simpa using h)]
      have hf : (strs (.slc es)).findIdx? (· == s.data.toList) = some i := by
        rw [List.findIdx?_eq_some_iff_getElem]
        refine ⟨by omega, ?_, fun j hj => ?_⟩
        · rw [List.getD_eq_getElem?_getD, List.getElem?_eq_getElem (by omega)] at h
          simpa using h
        · have := hno j hj
          rw [List.getD_eq_getElem?_getD, List.getElem?_eq_getElem (by omega)] at this
          simpa using this
      simp [idxS, hf]
    · rw [if_neg (by simpa using h)]
      exact ih (i + 1) (by omega) (by omega) (fun j hj => by
        rcases Nat.lt_or_eq_of_le (Nat.le_of_lt_succ hj) with h' | h'
        · exact hno j h'
        · rw [h']; exact h)
theorem law_slices_Index_string (ds : List D) (hw : D.wts (K.tyss k_slices_Index_string) ds) (hp : p_slices_Index_string ds) : Ev (ByS P_slices_Index_string S_slices_Index_string) B_slices_Index_string t_slices_Index_string ds (s_slices_Index_string ds) := by
  obtain ⟨a0, _, rfl, ha0, a1, _, rfl, ha1, rfl⟩ := hw
  obtain ⟨es, rfl, he, hwt⟩ := ha0
  obtain ⟨s, rfl⟩ := ha1
  simp [t_slices_Index_string, s_slices_Index_string, Ev.jump_iff, E.dens, E.den]
  exact loop_slices_Index_string es he hwt s _ _ 0 rfl (Nat.zero_le _) (fun j h => absurd h (Nat.not_lt_zero _))

theorem spec_slices_Index_string : ∀ ds, p_slices_Index_string ds → Corr Tryd.prog lay 61 k_slices_Index_string ds r_slices_Index_string (s_slices_Index_string ds) := spec_of_slices_Index_string law_slices_Index_string
/- slices.Contains[[]string,string] -/
def k_slices_Contains_string : List K := [(.one (.slc [.str])), (.one .str)]
def r_slices_Contains_string : List K := [(.one .bool)]
def b_slices_Contains_string : List Blk := []
noncomputable def c_slices_Contains_string : Ctx := mkCtx Tryd.prog lay Tryd.f56 ⟨[(61, [(.one (.int .i64))])], [], []⟩ k_slices_Contains_string r_slices_Contains_string [] b_slices_Contains_string
def t_slices_Contains_string : T :=
 (.call 61 [(.one (.slc [.str])), (.one .str)] [(.v 0 (.slc [.str])), (.v 1 .str)] [(.one (.int .i64))]
 (.ret [(.cmp .geq (.v 2 (.int .i64)) (.n .i64 0))]))
def B_slices_Contains_string : Nat → T
  | _ => .dead
theorem ok_slices_Contains_string : c_slices_Contains_string.Ok 56 B_slices_Contains_string := ok_of Tryd.func56 (by kernel_rfl) mixed
  (.nil)
theorem correct_slices_Contains_string {ds rs : List D} (h : Ev (Corr Tryd.prog lay) B_slices_Contains_string t_slices_Contains_string ds rs) : Corr Tryd.prog lay 56 k_slices_Contains_string ds r_slices_Contains_string rs :=
  correct_of ok_slices_Contains_string (n := 100000) (t := t_slices_Contains_string) (by kernel_rfl) (by kernel_rfl) h
def S_slices_Contains_string : Nat → List D → List D
  | 61, ds => s_slices_Index_string ds
  | _, _ => []
def P_slices_Contains_string : Nat → List K → List D → List K → Prop
  | 61, ks, ds, rk => ks = k_slices_Index_string ∧ rk = r_slices_Index_string ∧ p_slices_Index_string ds
  | _, _, _, _ => False
theorem use_slices_Contains_string : ∀ g ks ds rk xs, ByS P_slices_Contains_string S_slices_Contains_string g ks ds rk xs → Corr Tryd.prog lay g ks ds rk xs := by
  intro g ks ds rk xs h
  obtain ⟨h1, rfl⟩ := h
  unfold P_slices_Contains_string at h1
  split at h1
  · obtain ⟨rfl, rfl, h1⟩ := h1; exact spec_slices_Index_string ds h1
  · exact h1.elim
theorem spec_of_slices_Contains_string (law : ∀ ds, D.wts (K.tyss k_slices_Contains_string) ds → p_slices_Contains_string ds → Ev (ByS P_slices_Contains_string S_slices_Contains_string) B_slices_Contains_string t_slices_Contains_string ds (s_slices_Contains_string ds)) : ∀ ds, p_slices_Contains_string ds → Corr Tryd.prog lay 56 k_slices_Contains_string ds r_slices_Contains_string (s_slices_Contains_string ds) :=
  fun ds hp => .of_wt (by decide) fun hw => correct_slices_Contains_string ((law ds hw hp).monoC use_slices_Contains_string)
theorem idxS_nonneg (l : List (List UInt8)) (s : List UInt8) : decide (idxS l s ≥ 0) = l.contains s := by
  unfold idxS
  cases h : l.findIdx? (· == s) with
  | none =>
    rw [List.findIdx?_eq_none_iff] at h
    simp only [ge_iff_le]
    symm
    rw [show decide ((0 : Int) ≤ -1) = false from rfl]
    by_cases hc : l.contains s = true
    · rw [List.contains_iff_mem] at hc
      have := h s hc
      simp at this
    · simpa using hc
  | some i =>
    rw [List.findIdx?_eq_some_iff_getElem] at h
    obtain ⟨h1, h2, _⟩ := h
    have hm : s ∈ l := by
      have : l[i] = s := by simpa using h2
      rw [← this]; exact List.getElem_mem h1
    rw [List.contains_iff_mem.2 hm]
    simp
theorem law_slices_Contains_string (ds : List D) (hw : D.wts (K.tyss k_slices_Contains_string) ds) (hp : p_slices_Contains_string ds) : Ev (ByS P_slices_Contains_string S_slices_Contains_string) B_slices_Contains_string t_slices_Contains_string ds (s_slices_Contains_string ds) := by
  obtain ⟨a0, _, rfl, ha0, a1, _, rfl, ha1, rfl⟩ := hw
  obtain ⟨es, rfl, he, hwt⟩ := ha0
  obtain ⟨s, rfl⟩ := ha1
  simp [t_slices_Contains_string, s_slices_Contains_string, P_slices_Contains_string, S_slices_Contains_string, k_slices_Index_string, r_slices_Index_string, s_slices_Index_string, p_slices_Index_string, K.rts, K.otyss, K.otys, K.tyss, K.tys, Ev.ret_iff, Ev.call_iff, E.dens, E.den, cmpD]
  simpa [txt] using idxS_nonneg (strs (.slc es)) s.data.toList

theorem spec_slices_Contains_string : ∀ ds, p_slices_Contains_string ds → Corr Tryd.prog lay 56 k_slices_Contains_string ds r_slices_Contains_string (s_slices_Contains_string ds) := spec_of_slices_Contains_string law_slices_Contains_string
/- familycheck/protocol.isReserved -/
def k_protocol_isReserved : List K := [(.one .str)]
def r_protocol_isReserved : List K := [(.one .bool)]
def b_protocol_isReserved : List Blk := []
noncomputable def c_protocol_isReserved : Ctx := mkCtx Tryd.prog lay Tryd.f50 ⟨[(56, [(.one .bool)]), (57, [(.one (.slc [.str]))])], [], []⟩ k_protocol_isReserved r_protocol_isReserved [] b_protocol_isReserved
def t_protocol_isReserved : T :=
 (.call 57 [(.one .str)] [(.s ⟨#[112, 114, 111, 116, 111, 99, 111, 108, 32, 116, 111, 112, 111, 108, 111, 103, 121, 32, 115, 116, 97, 116, 101, 115, 32, 109, 101, 115, 115, 97, 103, 101, 115, 32, 118, 97, 108, 117, 101, 115, 32, 102, 97, 117, 108, 116, 115, 32, 114, 101, 115, 105, 108, 105, 101, 110, 99, 101, 32, 105, 110, 105, 116, 105, 97, 108, 32, 108, 101, 97, 100, 101, 114, 32, 114, 117, 108, 101, 32, 108, 111, 99, 97, 108, 32, 112, 97, 105, 114, 32, 98, 114, 111, 97, 100, 99, 97, 115, 116, 32, 110, 101, 105, 103, 104, 98, 111, 114, 32, 112, 97, 115, 115, 32, 119, 104, 101, 110, 32, 101, 120, 105, 115, 116, 115, 32, 102, 111, 114, 97, 108, 108, 32, 114, 101, 97, 100, 32, 119, 114, 105, 116, 101, 32, 115, 101, 110, 100, 32, 97, 108, 108, 32, 97, 116, 32, 102, 105, 114, 115, 116, 32, 108, 97, 115, 116, 32, 108, 101, 102, 116, 32, 114, 105, 103, 104, 116, 32, 112, 97, 114, 101, 110, 116, 32, 99, 104, 105, 108, 100, 32, 112, 114, 111, 112, 101, 114, 116, 121, 32, 110, 101, 118, 101, 114, 32, 101, 118, 101, 110, 116, 117, 97, 108, 108, 121, 32, 115, 116, 97, 114, 116, 32, 99, 111, 117, 110, 116, 32, 97, 100, 106, 97, 99, 101, 110, 116, 32, 103, 111, 97, 108, 32, 99, 108, 105, 113, 117, 101, 32, 108, 105, 110, 101, 32, 114, 105, 110, 103, 32, 116, 114, 101, 101, 32, 99, 114, 97, 115, 104, 32, 111, 109, 105, 115, 115, 105, 111, 110, 32, 97, 114, 98, 105, 116, 114, 97, 114, 121]⟩)] [(.one (.slc [.str]))]
 (.call 56 [(.one (.slc [.str])), (.one .str)] [(.v 1 (.slc [.str])), (.v 0 .str)] [(.one .bool)]
 (.ret [(.v 2 .bool)])))
def B_protocol_isReserved : Nat → T
  | _ => .dead
theorem ok_protocol_isReserved : c_protocol_isReserved.Ok 50 B_protocol_isReserved := ok_of Tryd.func50 (by kernel_rfl) mixed
  (.nil)
theorem correct_protocol_isReserved {ds rs : List D} (h : Ev (Corr Tryd.prog lay) B_protocol_isReserved t_protocol_isReserved ds rs) : Corr Tryd.prog lay 50 k_protocol_isReserved ds r_protocol_isReserved rs :=
  correct_of ok_protocol_isReserved (n := 100000) (t := t_protocol_isReserved) (by kernel_rfl) (by kernel_rfl) h
def S_protocol_isReserved : Nat → List D → List D
  | 57, ds => s_strings_Fields ds
  | 56, ds => s_slices_Contains_string ds
  | _, _ => []
def P_protocol_isReserved : Nat → List K → List D → List K → Prop
  | 57, ks, ds, rk => ks = k_strings_Fields ∧ rk = r_strings_Fields ∧ p_strings_Fields ds
  | 56, ks, ds, rk => ks = k_slices_Contains_string ∧ rk = r_slices_Contains_string ∧ p_slices_Contains_string ds
  | _, _, _, _ => False
theorem use_protocol_isReserved : ∀ g ks ds rk xs, ByS P_protocol_isReserved S_protocol_isReserved g ks ds rk xs → Corr Tryd.prog lay g ks ds rk xs := by
  intro g ks ds rk xs h
  obtain ⟨h1, rfl⟩ := h
  unfold P_protocol_isReserved at h1
  split at h1
  · obtain ⟨rfl, rfl, h1⟩ := h1; exact spec_strings_Fields ds h1
  · obtain ⟨rfl, rfl, h1⟩ := h1; exact spec_slices_Contains_string ds h1
  · exact h1.elim
theorem spec_of_protocol_isReserved (law : ∀ ds, D.wts (K.tyss k_protocol_isReserved) ds → p_protocol_isReserved ds → Ev (ByS P_protocol_isReserved S_protocol_isReserved) B_protocol_isReserved t_protocol_isReserved ds (s_protocol_isReserved ds)) : ∀ ds, p_protocol_isReserved ds → Corr Tryd.prog lay 50 k_protocol_isReserved ds r_protocol_isReserved (s_protocol_isReserved ds) :=
  fun ds hp => .of_wt (by decide) fun hw => correct_protocol_isReserved ((law ds hw hp).monoC use_protocol_isReserved)
theorem tree_protocol_isReserved : t_protocol_isReserved = .call 57 [.one .str] [.s ⟨reservedS.toArray⟩] [.one (.slc [.str])]
    (.call 56 [.one (.slc [.str]), .one .str] [.v 1 (.slc [.str]), .v 0 .str] [.one .bool] (.ret [.v 2 .bool])) := by kernel_rfl
theorem reservedS_ok : p_strings_Fields [.str ⟨reservedS.toArray⟩] := by
  refine ⟨?_, ?_, ?_⟩
  · simp only [nth, List.getD_cons_zero, D.toS, ByteArray.size, List.size_toArray]; decide +kernel
  · simp only [nth, List.getD_cons_zero, D.toS]; decide +kernel
  · simp only [nth, List.getD_cons_zero, D.toS]; decide +kernel
theorem law_protocol_isReserved (ds : List D) (hw : D.wts (K.tyss k_protocol_isReserved) ds) (hp : p_protocol_isReserved ds) : Ev (ByS P_protocol_isReserved S_protocol_isReserved) B_protocol_isReserved t_protocol_isReserved ds (s_protocol_isReserved ds) := by
  obtain ⟨a0, _, rfl, ha0, rfl⟩ := hw
  obtain ⟨s, rfl⟩ := ha0
  rw [tree_protocol_isReserved]
  simp only [Ev.call_iff, E.dens, E.den, P_protocol_isReserved, S_protocol_isReserved, k_strings_Fields, r_strings_Fields, k_slices_Contains_string, r_slices_Contains_string, Ev.ret_iff, true_and]
  refine ⟨reservedS_ok, rfl, trivial, rfl, ?_⟩
  simp only [s_strings_Fields, s_slices_Contains_string, s_protocol_isReserved, strs, txt, nth, List.getD_cons_zero, D.toS, D.toL, List.cons_append, List.nil_append, List.getD_cons_succ, List.map_map]
  unfold reservedL
  generalize reservedS = R
  refine congrArg (fun (l : List (List UInt8)) => [D.bool (l.contains s.data.toList)]) ?_
  conv => rhs; rw [← List.map_id (Lib.fields R)]
  apply List.map_congr_left
  intro l _
  simp

theorem spec_protocol_isReserved : ∀ ds, p_protocol_isReserved ds → Corr Tryd.prog lay 50 k_protocol_isReserved ds r_protocol_isReserved (s_protocol_isReserved ds) := spec_of_protocol_isReserved law_protocol_isReserved
/- familycheck/protocol.ValidName -/
def k_protocol_ValidName : List K := [(.one .str)]
def r_protocol_ValidName : List K := [(.one .bool)]
def b_protocol_ValidName : List Blk := [{ st := [.code [0, 0, 0, 1, 0, 1, 1], .code [1, 0, 0, 1, 0, 1, 1], .inLoop [0, 1, 0, 1, 1], .inBlock 0, .code [1, 1, 1]], σ := { t := [(0, (.sc (.v 0 .str))), (2, (.sc (.v 2 .bool))), (14, (.ptr 0 0))], o := [(.iter (.v 0 .str) (.v 1 (.int .i64)))] }, tys := [.str, (.int .i64), .bool] }]
noncomputable def c_protocol_ValidName : Ctx := mkCtx Tryd.prog lay Tryd.f25 ⟨[(50, [(.one .bool)])], [], []⟩ k_protocol_ValidName r_protocol_ValidName [(4, 0)] b_protocol_ValidName
def t_protocol_ValidName : T :=
 (.ite (.scmp .eql (.v 0 .str) (.s ⟨#[]⟩))
  (.ret [(.b false)])
  (.ite (.cmp .gtr (.slen (.v 0 .str)) (.n .i64 12))
   (.ret [(.b false)])
   (.jump 0 [(.v 0 .str), (.n .i64 0), (.b false)])))
def t0_protocol_ValidName : T :=
 (.ite (.cmp .lss (.v 1 (.int .i64)) (.slen (.v 0 .str)))
  (.ite (.cmp .geq (.rune (.v 0 .str) (.v 1 (.int .i64))) (.n .i32 97))
   (.ite (.not (.cmp .leq (.rune (.v 0 .str) (.v 1 (.int .i64))) (.n .i32 122)))
    (.ite (.cmp .eql (.v 1 (.int .i64)) (.n .i64 0))
     (.ret [(.b false)])
     (.ite (.cmp .lss (.rune (.v 0 .str) (.v 1 (.int .i64))) (.n .i32 48))
      (.ite (.cmp .neq (.rune (.v 0 .str) (.v 1 (.int .i64))) (.n .i32 95))
       (.ret [(.b false)])
       (.jump 0 [(.v 0 .str), (.rnext (.v 0 .str) (.v 1 (.int .i64))), (.v 2 .bool)]))
      (.ite (.cmp .gtr (.rune (.v 0 .str) (.v 1 (.int .i64))) (.n .i32 57))
       (.ite (.cmp .neq (.rune (.v 0 .str) (.v 1 (.int .i64))) (.n .i32 95))
        (.ret [(.b false)])
        (.jump 0 [(.v 0 .str), (.rnext (.v 0 .str) (.v 1 (.int .i64))), (.v 2 .bool)]))
       (.jump 0 [(.v 0 .str), (.rnext (.v 0 .str) (.v 1 (.int .i64))), (.v 2 .bool)]))))
    (.jump 0 [(.v 0 .str), (.rnext (.v 0 .str) (.v 1 (.int .i64))), (.v 2 .bool)]))
   (.ite (.not (.b false))
    (.ite (.cmp .eql (.v 1 (.int .i64)) (.n .i64 0))
     (.ret [(.b false)])
     (.ite (.cmp .lss (.rune (.v 0 .str) (.v 1 (.int .i64))) (.n .i32 48))
      (.ite (.cmp .neq (.rune (.v 0 .str) (.v 1 (.int .i64))) (.n .i32 95))
       (.ret [(.b false)])
       (.jump 0 [(.v 0 .str), (.rnext (.v 0 .str) (.v 1 (.int .i64))), (.v 2 .bool)]))
      (.ite (.cmp .gtr (.rune (.v 0 .str) (.v 1 (.int .i64))) (.n .i32 57))
       (.ite (.cmp .neq (.rune (.v 0 .str) (.v 1 (.int .i64))) (.n .i32 95))
        (.ret [(.b false)])
        (.jump 0 [(.v 0 .str), (.rnext (.v 0 .str) (.v 1 (.int .i64))), (.v 2 .bool)]))
       (.jump 0 [(.v 0 .str), (.rnext (.v 0 .str) (.v 1 (.int .i64))), (.v 2 .bool)]))))
    (.jump 0 [(.v 0 .str), (.rnext (.v 0 .str) (.v 1 (.int .i64))), (.v 2 .bool)])))
  (.call 50 [(.one .str)] [(.v 0 .str)] [(.one .bool)]
  (.ret [(.not (.v 3 .bool))])))
def B_protocol_ValidName : Nat → T
  | 0 => t0_protocol_ValidName
  | _ => .dead
theorem ok_protocol_ValidName : c_protocol_ValidName.Ok 25 B_protocol_ValidName := ok_of Tryd.func25 (by kernel_rfl) mixed
  (.cons (n := 100000) (by kernel_rfl) (.nil))
theorem correct_protocol_ValidName {ds rs : List D} (h : Ev (Corr Tryd.prog lay) B_protocol_ValidName t_protocol_ValidName ds rs) : Corr Tryd.prog lay 25 k_protocol_ValidName ds r_protocol_ValidName rs :=
  correct_of ok_protocol_ValidName (n := 100000) (t := t_protocol_ValidName) (by kernel_rfl) (by kernel_rfl) h
def S_protocol_ValidName : Nat → List D → List D
  | 50, ds => s_protocol_isReserved ds
  | _, _ => []
def P_protocol_ValidName : Nat → List K → List D → List K → Prop
  | 50, ks, ds, rk => ks = k_protocol_isReserved ∧ rk = r_protocol_isReserved ∧ p_protocol_isReserved ds
  | _, _, _, _ => False
theorem use_protocol_ValidName : ∀ g ks ds rk xs, ByS P_protocol_ValidName S_protocol_ValidName g ks ds rk xs → Corr Tryd.prog lay g ks ds rk xs := by
  intro g ks ds rk xs h
  obtain ⟨h1, rfl⟩ := h
  unfold P_protocol_ValidName at h1
  split at h1
  · obtain ⟨rfl, rfl, h1⟩ := h1; exact spec_protocol_isReserved ds h1
  · exact h1.elim
theorem spec_of_protocol_ValidName (law : ∀ ds, D.wts (K.tyss k_protocol_ValidName) ds → p_protocol_ValidName ds → Ev (ByS P_protocol_ValidName S_protocol_ValidName) B_protocol_ValidName t_protocol_ValidName ds (s_protocol_ValidName ds)) : ∀ ds, p_protocol_ValidName ds → Corr Tryd.prog lay 25 k_protocol_ValidName ds r_protocol_ValidName (s_protocol_ValidName ds) :=
  fun ds hp => .of_wt (by decide) fun hw => correct_protocol_ValidName ((law ds hw hp).monoC use_protocol_ValidName)
theorem u8_lower (b : UInt8) : lower b = decide (97 ≤ b.toNat ∧ b.toNat ≤ 122) := by simp [lower, UInt8.le_iff_toNat_le]
theorem u8_inName (b : UInt8) : inName b = (decide (97 ≤ b.toNat ∧ b.toNat ≤ 122) || (decide (48 ≤ b.toNat ∧ b.toNat ≤ 57) || decide (b.toNat = 95))) := by
  have : (b == 95) = decide (b.toNat = 95) := by
    rw [Bool.eq_iff_iff, beq_iff_eq, decide_eq_true_eq, ← UInt8.toNat_inj]; rfl
  rw [inName, u8_lower, this]
  simp [UInt8.le_iff_toNat_le]
def restOk (l : List UInt8) (p : Nat) : Bool := (if p = 0 then (match l with | [] => true | b :: _ => lower b) else true) && (l.drop p).all inName && !reservedL.contains l
theorem loop_protocol_ValidName (s : ByteArray) (_hs : s.size ≤ 12) (st : D) : ∀ (m p : Nat), s.size - p = m → p ≤ s.size →
    Ev (ByS P_protocol_ValidName S_protocol_ValidName) B_protocol_ValidName t0_protocol_ValidName [.str s, .int .i64 p, st] [.bool (restOk s.data.toList p)] := by
  intro m
  induction m with
  | zero =>
    intro p hm h1
    have hp : p = s.size := by omega
    subst hp
    have hd : s.data.toList.drop s.size = [] := List.drop_eq_nil_iff.2 (by rw [Array.length_toList]; exact Nat.le_refl _)
    have hr : restOk s.data.toList s.size = !reservedL.contains s.data.toList := by
      unfold restOk
      rw [hd]
      by_cases h0 : s.size = 0
      · have : s.data.toList = [] := List.length_eq_zero_iff.1 (by rw [Array.length_toList]; exact h0)
        simp [this]
      · simp [h0]
    rw [hr]
    simp [t0_protocol_ValidName, P_protocol_ValidName, S_protocol_ValidName, k_protocol_isReserved, r_protocol_isReserved, p_protocol_isReserved, s_protocol_isReserved, txt, K.rts, K.otyss, K.otys, K.tyss, K.tys, Ev.ite_iff, Ev.ret_iff, Ev.call_iff, E.dens, E.den, cmpD]
  | succ m ih =>
    intro p hm h1
    have hlt : p < s.size := by omega
    have hll : p < s.data.toList.length := by rw [Array.length_toList]; exact hlt
    have hget : s.data.toList[p] = s[p] := by simp; rfl
    have hdrop : s.data.toList.drop p = s[p] :: s.data.toList.drop (p + 1) := by rw [List.drop_eq_getElem_cons hll, hget]
    have hhead : p = 0 → (match s.data.toList with | [] => true | b :: _ => lower b) = lower s[p] := by
      intro h0; subst h0
      rw [List.drop_zero] at hdrop
      rw [hdrop]
    have hF : (inName s[p] = false ∨ (p = 0 ∧ lower s[p] = false)) → restOk s.data.toList p = false := by
      intro h
      unfold restOk
      rw [hdrop, List.all_cons]
      rcases h with h | ⟨h0, h⟩
      · simp [h]
      · rw [if_pos h0, hhead h0, h]; simp
    have hJ : inName s[p] = true → (p = 0 → lower s[p] = true) → restOk s.data.toList p = restOk s.data.toList (p + 1) := by
      intro h h'
      unfold restOk
      rw [hdrop, List.all_cons, h]
      by_cases h0 : p = 0
      · rw [if_pos h0, hhead h0, h' h0]; simp
      · rw [if_neg h0]; simp
    have hnext := ih (p + 1) (by omega) (by omega)
    rw [u8_inName, u8_lower] at hF hJ
    by_cases ha : (s[p]).toNat < 128
    · have hdec := decode_ascii s p hlt ha
      have hw : ((p : Int) + 1) = ((p + 1 : Nat) : Int) := by simp
      generalize hn : (s[p]).toNat = n at *
      simp [t0_protocol_ValidName, Ev.ite_iff, Ev.ret_iff, Ev.jump_iff, E.dens, E.den, cmpD, hlt, hdec]
      have go : ∀ (h : (decide (97 ≤ n ∧ n ≤ 122) || (decide (48 ≤ n ∧ n ≤ 57) || decide (n = 95))) = true) (h' : p = 0 → decide (97 ≤ n ∧ n ≤ 122) = true),
          Ev (ByS P_protocol_ValidName S_protocol_ValidName) B_protocol_ValidName (B_protocol_ValidName 0) [.str s, .int .i64 ((p : Int) + 1), st] [.bool (restOk s.data.toList p)] := fun h h' => by
        rw [hJ h h', hw]; exact hnext
      repeat' split
      all_goals first
        | (apply go <;> simp <;> omega)
        | (rw [hF (by simp; omega)])
    · have hdec := decode_high s p hlt (by omega)
      obtain ⟨hd1, _⟩ := hdec
      have hres : restOk s.data.toList p = false := hF (by simp; omega)
      rw [hres]
      simp [t0_protocol_ValidName, Ev.ite_iff, Ev.ret_iff, Ev.jump_iff, E.dens, E.den, cmpD, hlt]
      have hd2 : (128 : Int) ≤ ((Utf8.decode s p).1 : Int) := by omega
      repeat' split
      all_goals first
        | rfl
        | trivial
        | (exfalso; omega)
        | (intros; exfalso; omega)
theorem law_protocol_ValidName (ds : List D) (hw : D.wts (K.tyss k_protocol_ValidName) ds) (hp : p_protocol_ValidName ds) : Ev (ByS P_protocol_ValidName S_protocol_ValidName) B_protocol_ValidName t_protocol_ValidName ds (s_protocol_ValidName ds) := by
  obtain ⟨a0, _, rfl, ha0, rfl⟩ := hw
  obtain ⟨s, rfl⟩ := ha0
  have hlen : s.data.toList.length = s.size := Array.length_toList
  have hv : validL s.data.toList = (decide (s.data.toList ≠ []) && (decide (s.size ≤ 12) && restOk s.data.toList 0)) := by
    unfold validL restOk
    rw [hlen]
    cases h : s.data.toList with
    | nil => rw [h] at hlen; simp
    | cons b l =>
      rw [h] at hlen
      have : 1 ≤ s.size := by rw [← hlen]; simp
      simp [this, Bool.and_assoc]
  simp only [s_protocol_ValidName, txt, nth, List.getD_cons_zero, D.toS, hv]
  have hem : (ByteArray.mk #[]).data.toList = [] := rfl
  simp only [t_protocol_ValidName, Ev.ite_iff, E.den, D.toB_bool, List.getD_cons_zero, D.toS, scmpD_eql, hem]
  by_cases h0 : s.data.toList = []
  · simp [h0, Ev.ret_iff, E.dens, E.den]
  · by_cases h12 : s.size ≤ 12
    · have := loop_protocol_ValidName s h12 (.bool false) s.size 0 rfl (Nat.zero_le _)
      have h12' : ¬ ((s.size : Int) > 12) := by omega
      simp only [h0, h12, h12', cmpD, D.toI, decide_false, decide_true, Bool.false_eq_true, if_false, ne_eq, not_false_eq_true, Bool.true_and, Ev.jump_iff, B_protocol_ValidName, E.dens, E.den, List.getD_cons_zero]
      exact this
    · have h12' : (s.size : Int) > 12 := by omega
      simp [h0, h12, h12', cmpD, Ev.ret_iff, E.dens, E.den]

theorem spec_protocol_ValidName : ∀ ds, p_protocol_ValidName ds → Corr Tryd.prog lay 25 k_protocol_ValidName ds r_protocol_ValidName (s_protocol_ValidName ds) := spec_of_protocol_ValidName law_protocol_ValidName
/- familycheck/familychecklaw02.known -/
def k_law02_known : List K := []
def r_law02_known : List K := [(.one .bool)]
def b_law02_known : List Blk := []
noncomputable def c_law02_known : Ctx := mkCtx Tryd.prog lay Tryd.f9 ⟨[(24, [(.one .str)]), (25, [(.one .bool)])], [], []⟩ k_law02_known r_law02_known [] b_law02_known
def t_law02_known : T :=
 (.call 24 [(.agg [(.int .i64), (.int .i64), (.int .i64), (.int .i64)])] [(.n .i64 (-1)), (.n .i64 1), (.n .i64 (-3)), (.n .i64 0)] [(.one .str)]
 (.ite (.scmp .eql (.v 0 .str) (.s ⟨#[110, 45, 51, 42, 116, 45, 49]⟩))
  (.call 25 [(.one .str)] [(.s ⟨#[118, 48]⟩)] [(.one .bool)]
  (.ite (.v 1 .bool)
   (.call 25 [(.one .str)] [(.s ⟨#[108, 105, 110, 101]⟩)] [(.one .bool)]
   (.ite (.not (.v 2 .bool))
    (.call 25 [(.one .str)] [(.s ⟨#[]⟩)] [(.one .bool)]
    (.ret [(.not (.v 3 .bool))]))
    (.ret [(.b false)])))
   (.ret [(.b false)])))
  (.ret [(.b false)])))
def B_law02_known : Nat → T
  | _ => .dead
theorem ok_law02_known : c_law02_known.Ok 9 B_law02_known := ok_of Tryd.func9 (by kernel_rfl) mixed
  (.nil)
theorem correct_law02_known {ds rs : List D} (h : Ev (Corr Tryd.prog lay) B_law02_known t_law02_known ds rs) : Corr Tryd.prog lay 9 k_law02_known ds r_law02_known rs :=
  correct_of ok_law02_known (n := 100000) (t := t_law02_known) (by kernel_rfl) (by kernel_rfl) h
def S_law02_known : Nat → List D → List D
  | 24, ds => s_protocol_FormatLinear ds
  | 25, ds => s_protocol_ValidName ds
  | _, _ => []
def P_law02_known : Nat → List K → List D → List K → Prop
  | 24, ks, ds, rk => ks = k_protocol_FormatLinear ∧ rk = r_protocol_FormatLinear ∧ p_protocol_FormatLinear ds
  | 25, ks, ds, rk => ks = k_protocol_ValidName ∧ rk = r_protocol_ValidName ∧ p_protocol_ValidName ds
  | _, _, _, _ => False
theorem use_law02_known : ∀ g ks ds rk xs, ByS P_law02_known S_law02_known g ks ds rk xs → Corr Tryd.prog lay g ks ds rk xs := by
  intro g ks ds rk xs h
  obtain ⟨h1, rfl⟩ := h
  unfold P_law02_known at h1
  split at h1
  · obtain ⟨rfl, rfl, h1⟩ := h1; exact spec_protocol_FormatLinear ds h1
  · obtain ⟨rfl, rfl, h1⟩ := h1; exact spec_protocol_ValidName ds h1
  · exact h1.elim
theorem spec_of_law02_known (law : ∀ ds, D.wts (K.tyss k_law02_known) ds → p_law02_known ds → Ev (ByS P_law02_known S_law02_known) B_law02_known t_law02_known ds (s_law02_known ds)) : ∀ ds, p_law02_known ds → Corr Tryd.prog lay 9 k_law02_known ds r_law02_known (s_law02_known ds) :=
  fun ds hp => .of_wt (by decide) fun hw => correct_law02_known ((law ds hw hp).monoC use_law02_known)
theorem law_law02_known (ds : List D) (hw : D.wts (K.tyss k_law02_known) ds) (hp : p_law02_known ds) : Ev (ByS P_law02_known S_law02_known) B_law02_known t_law02_known ds (s_law02_known ds) := by
  have h1 : fmtLin (-1) 1 (-3) 0 = [110, 45, 51, 42, 116, 45, 49] := by decide +kernel
  have h2 : validL [118, 48] = true := by decide +kernel
  have h3 : validL [108, 105, 110, 101] = false := by decide +kernel
  have h4 : validL [] = false := by decide +kernel
  have h5 : fewI (-1) 1 (-3) 0 = true := by decide
  obtain rfl : ds = [] := hw
  simp [t_law02_known, s_law02_known, P_law02_known, S_law02_known, k_protocol_FormatLinear, r_protocol_FormatLinear, k_protocol_ValidName, r_protocol_ValidName, s_protocol_FormatLinear, p_protocol_FormatLinear, s_protocol_ValidName, p_protocol_ValidName, K.rts, K.otyss, K.otys, CK.tyss, CK.tys, K.tyss, K.tys, Ev.ite_iff, Ev.ret_iff, Ev.call_iff, E.dens, E.den, cmpD, scmpD_eql, txt, few4, h1, h2, h3, h4, h5]

theorem spec_law02_known : ∀ ds, p_law02_known ds → Corr Tryd.prog lay 9 k_law02_known ds r_law02_known (s_law02_known ds) := spec_of_law02_known law_law02_known
/- familycheck/familychecklaw02.ProtocolEvaluates -/
def k_law02_ProtocolEvaluates : List K := [(.agg [(.int .i64), (.int .i64), (.int .i64), (.int .i64)]), (.agg [(.int .i64), (.int .i64), (.int .i64)])]
def r_law02_ProtocolEvaluates : List K := [(.one .bool)]
def b_law02_ProtocolEvaluates : List Blk := []
noncomputable def c_law02_ProtocolEvaluates : Ctx := mkCtx Tryd.prog lay Tryd.f3 ⟨[(7, [(.one (.int .i64)), (.one (.int .i64))]), (8, [(.one (.int .i64)), (.one (.int .i64))]), (9, [(.one .bool)])], [], []⟩ k_law02_ProtocolEvaluates r_law02_ProtocolEvaluates [] b_law02_ProtocolEvaluates
def t_law02_ProtocolEvaluates : T :=
 (.call 7 [(.agg [(.int .i64), (.int .i64), (.int .i64), (.int .i64)]), (.agg [(.int .i64), (.int .i64), (.int .i64)])] [(.v 0 (.int .i64)), (.v 1 (.int .i64)), (.v 2 (.int .i64)), (.v 3 (.int .i64)), (.v 4 (.int .i64)), (.v 5 (.int .i64)), (.v 6 (.int .i64))] [(.one (.int .i64)), (.one (.int .i64))]
 (.call 8 [(.agg [(.int .i64), (.int .i64), (.int .i64), (.int .i64)]), (.agg [(.int .i64), (.int .i64), (.int .i64)])] [(.v 0 (.int .i64)), (.v 1 (.int .i64)), (.v 2 (.int .i64)), (.v 3 (.int .i64)), (.v 4 (.int .i64)), (.v 5 (.int .i64)), (.v 6 (.int .i64))] [(.one (.int .i64)), (.one (.int .i64))]
 (.ite (.cmp .eql (.v 7 (.int .i64)) (.v 9 (.int .i64)))
  (.ite (.cmp .eql (.v 8 (.int .i64)) (.v 10 (.int .i64)))
   (.call 9 [] [] [(.one .bool)]
   (.ret [(.v 11 .bool)]))
   (.ret [(.b false)]))
  (.ret [(.b false)]))))
def B_law02_ProtocolEvaluates : Nat → T
  | _ => .dead
theorem ok_law02_ProtocolEvaluates : c_law02_ProtocolEvaluates.Ok 3 B_law02_ProtocolEvaluates := ok_of Tryd.func3 (by kernel_rfl) mixed
  (.nil)
theorem correct_law02_ProtocolEvaluates {ds rs : List D} (h : Ev (Corr Tryd.prog lay) B_law02_ProtocolEvaluates t_law02_ProtocolEvaluates ds rs) : Corr Tryd.prog lay 3 k_law02_ProtocolEvaluates ds r_law02_ProtocolEvaluates rs :=
  correct_of ok_law02_ProtocolEvaluates (n := 100000) (t := t_law02_ProtocolEvaluates) (by kernel_rfl) (by kernel_rfl) h
def S_law02_ProtocolEvaluates : Nat → List D → List D
  | 7, ds => s_protocol_Evaluate ds
  | 8, ds => s_ref02_Evaluate ds
  | 9, ds => s_law02_known ds
  | _, _ => []
def P_law02_ProtocolEvaluates : Nat → List K → List D → List K → Prop
  | 7, ks, ds, rk => ks = k_protocol_Evaluate ∧ rk = r_protocol_Evaluate ∧ p_protocol_Evaluate ds
  | 8, ks, ds, rk => ks = k_ref02_Evaluate ∧ rk = r_ref02_Evaluate ∧ p_ref02_Evaluate ds
  | 9, ks, ds, rk => ks = k_law02_known ∧ rk = r_law02_known ∧ p_law02_known ds
  | _, _, _, _ => False
theorem use_law02_ProtocolEvaluates : ∀ g ks ds rk xs, ByS P_law02_ProtocolEvaluates S_law02_ProtocolEvaluates g ks ds rk xs → Corr Tryd.prog lay g ks ds rk xs := by
  intro g ks ds rk xs h
  obtain ⟨h1, rfl⟩ := h
  unfold P_law02_ProtocolEvaluates at h1
  split at h1
  · obtain ⟨rfl, rfl, h1⟩ := h1; exact spec_protocol_Evaluate ds h1
  · obtain ⟨rfl, rfl, h1⟩ := h1; exact spec_ref02_Evaluate ds h1
  · obtain ⟨rfl, rfl, h1⟩ := h1; exact spec_law02_known ds h1
  · exact h1.elim
theorem spec_of_law02_ProtocolEvaluates (law : ∀ ds, D.wts (K.tyss k_law02_ProtocolEvaluates) ds → p_law02_ProtocolEvaluates ds → Ev (ByS P_law02_ProtocolEvaluates S_law02_ProtocolEvaluates) B_law02_ProtocolEvaluates t_law02_ProtocolEvaluates ds (s_law02_ProtocolEvaluates ds)) : ∀ ds, p_law02_ProtocolEvaluates ds → Corr Tryd.prog lay 3 k_law02_ProtocolEvaluates ds r_law02_ProtocolEvaluates (s_law02_ProtocolEvaluates ds) :=
  fun ds hp => .of_wt (by decide) fun hw => correct_law02_ProtocolEvaluates ((law ds hw hp).monoC use_law02_ProtocolEvaluates)
theorem law_law02_ProtocolEvaluates (ds : List D) (hw : D.wts (K.tyss k_law02_ProtocolEvaluates) ds) (hp : p_law02_ProtocolEvaluates ds) : Ev (ByS P_law02_ProtocolEvaluates S_law02_ProtocolEvaluates) B_law02_ProtocolEvaluates t_law02_ProtocolEvaluates ds (s_law02_ProtocolEvaluates ds) := by
  obtain ⟨a0, _, rfl, ha0, a1, _, rfl, ha1, a2, _, rfl, ha2, a3, _, rfl, ha3, a4, _, rfl, ha4, a5, _, rfl, ha5, a6, _, rfl, ha6, rfl⟩ := hw
  have he : ∃ u v : Int, eval7 [a0, a1, a2, a3, a4, a5, a6] = [I u, I v] := by
    unfold eval7
    split
    · split
      · exact ⟨_, _, rfl⟩
      · exact ⟨_, _, rfl⟩
    · exact ⟨_, _, rfl⟩
  obtain ⟨u, v, he⟩ := he
  simp [t_law02_ProtocolEvaluates, s_law02_ProtocolEvaluates, P_law02_ProtocolEvaluates, S_law02_ProtocolEvaluates, k_protocol_Evaluate, r_protocol_Evaluate, k_ref02_Evaluate, r_ref02_Evaluate, s_protocol_Evaluate, p_protocol_Evaluate, s_ref02_Evaluate, p_ref02_Evaluate, k_law02_known, r_law02_known, s_law02_known, p_law02_known, K.rts, K.otyss, K.otys, CK.tyss, CK.tys, K.tyss, K.tys, Ev.ite_iff, Ev.ret_iff, Ev.call_iff, E.dens, E.den, cmpD, he]

theorem spec_law02_ProtocolEvaluates : ∀ ds, p_law02_ProtocolEvaluates ds → Corr Tryd.prog lay 3 k_law02_ProtocolEvaluates ds r_law02_ProtocolEvaluates (s_law02_ProtocolEvaluates ds) := spec_of_law02_ProtocolEvaluates law_law02_ProtocolEvaluates
/- cmp.isNaN[int] -/
def k_cmp_isNaN_int : List K := [(.one (.int .i64))]
def r_cmp_isNaN_int : List K := [(.one .bool)]
def b_cmp_isNaN_int : List Blk := []
noncomputable def c_cmp_isNaN_int : Ctx := mkCtx Tryd.prog lay Tryd.f53 ⟨[], [], []⟩ k_cmp_isNaN_int r_cmp_isNaN_int [] b_cmp_isNaN_int
def t_cmp_isNaN_int : T :=
 (.ret [(.cmp .neq (.v 0 (.int .i64)) (.v 0 (.int .i64)))])
def B_cmp_isNaN_int : Nat → T
  | _ => .dead
theorem ok_cmp_isNaN_int : c_cmp_isNaN_int.Ok 53 B_cmp_isNaN_int := ok_of Tryd.func53 (by kernel_rfl) mixed
  (.nil)
theorem correct_cmp_isNaN_int {ds rs : List D} (h : Ev (Corr Tryd.prog lay) B_cmp_isNaN_int t_cmp_isNaN_int ds rs) : Corr Tryd.prog lay 53 k_cmp_isNaN_int ds r_cmp_isNaN_int rs :=
  correct_of ok_cmp_isNaN_int (n := 100000) (t := t_cmp_isNaN_int) (by kernel_rfl) (by kernel_rfl) h
def S_cmp_isNaN_int : Nat → List D → List D
  | _, _ => []
def P_cmp_isNaN_int : Nat → List K → List D → List K → Prop
  | _, _, _, _ => False
theorem use_cmp_isNaN_int : ∀ g ks ds rk xs, ByS P_cmp_isNaN_int S_cmp_isNaN_int g ks ds rk xs → Corr Tryd.prog lay g ks ds rk xs := by
  intro g ks ds rk xs h
  obtain ⟨h1, rfl⟩ := h
  unfold P_cmp_isNaN_int at h1
  split at h1
  · exact h1.elim
theorem spec_of_cmp_isNaN_int (law : ∀ ds, D.wts (K.tyss k_cmp_isNaN_int) ds → p_cmp_isNaN_int ds → Ev (ByS P_cmp_isNaN_int S_cmp_isNaN_int) B_cmp_isNaN_int t_cmp_isNaN_int ds (s_cmp_isNaN_int ds)) : ∀ ds, p_cmp_isNaN_int ds → Corr Tryd.prog lay 53 k_cmp_isNaN_int ds r_cmp_isNaN_int (s_cmp_isNaN_int ds) :=
  fun ds hp => .of_wt (by decide) fun hw => correct_cmp_isNaN_int ((law ds hw hp).monoC use_cmp_isNaN_int)
theorem law_cmp_isNaN_int (ds : List D) (hw : D.wts (K.tyss k_cmp_isNaN_int) ds) (hp : p_cmp_isNaN_int ds) : Ev (ByS P_cmp_isNaN_int S_cmp_isNaN_int) B_cmp_isNaN_int t_cmp_isNaN_int ds (s_cmp_isNaN_int ds) := by
  obtain ⟨a0, _, rfl, ha0, rfl⟩ := hw
  obtain ⟨x0, rfl⟩ := ha0
  simp [t_cmp_isNaN_int, s_cmp_isNaN_int, P_cmp_isNaN_int, S_cmp_isNaN_int, K.rts, K.otyss, K.otys, CK.tyss, K.tyss, K.tys, Ev.ite_iff, Ev.ret_iff, Ev.guard_iff, Ev.jump_iff, Ev.may_iff, Ev.call_iff, E.dens, E.denss, E.den, cmpD, scmpD]
  all_goals (repeat' split) <;> (try simp_all) <;> (try omega)

theorem spec_cmp_isNaN_int : ∀ ds, p_cmp_isNaN_int ds → Corr Tryd.prog lay 53 k_cmp_isNaN_int ds r_cmp_isNaN_int (s_cmp_isNaN_int ds) := spec_of_cmp_isNaN_int law_cmp_isNaN_int
/- cmp.Compare[int] -/
def k_cmp_Compare_int : List K := [(.one (.int .i64)), (.one (.int .i64))]
def r_cmp_Compare_int : List K := [(.one (.int .i64))]
def b_cmp_Compare_int : List Blk := []
noncomputable def c_cmp_Compare_int : Ctx := mkCtx Tryd.prog lay Tryd.f42 ⟨[(53, [(.one .bool)])], [], []⟩ k_cmp_Compare_int r_cmp_Compare_int [] b_cmp_Compare_int
def t_cmp_Compare_int : T :=
 (.call 53 [(.one (.int .i64))] [(.v 0 (.int .i64))] [(.one .bool)]
 (.call 53 [(.one (.int .i64))] [(.v 1 (.int .i64))] [(.one .bool)]
 (.ite (.v 2 .bool)
  (.ite (.v 3 .bool)
   (.ret [(.n .i64 0)])
   (.ret [(.n .i64 (-1))]))
  (.ite (.v 3 .bool)
   (.ret [(.n .i64 1)])
   (.ite (.cmp .lss (.v 0 (.int .i64)) (.v 1 (.int .i64)))
    (.ret [(.n .i64 (-1))])
    (.ite (.cmp .gtr (.v 0 (.int .i64)) (.v 1 (.int .i64)))
     (.ret [(.n .i64 1)])
     (.ret [(.n .i64 0)])))))))
def B_cmp_Compare_int : Nat → T
  | _ => .dead
theorem ok_cmp_Compare_int : c_cmp_Compare_int.Ok 42 B_cmp_Compare_int := ok_of Tryd.func42 (by kernel_rfl) mixed
  (.nil)
theorem correct_cmp_Compare_int {ds rs : List D} (h : Ev (Corr Tryd.prog lay) B_cmp_Compare_int t_cmp_Compare_int ds rs) : Corr Tryd.prog lay 42 k_cmp_Compare_int ds r_cmp_Compare_int rs :=
  correct_of ok_cmp_Compare_int (n := 100000) (t := t_cmp_Compare_int) (by kernel_rfl) (by kernel_rfl) h
def S_cmp_Compare_int : Nat → List D → List D
  | 53, ds => s_cmp_isNaN_int ds
  | _, _ => []
def P_cmp_Compare_int : Nat → List K → List D → List K → Prop
  | 53, ks, ds, rk => ks = k_cmp_isNaN_int ∧ rk = r_cmp_isNaN_int ∧ p_cmp_isNaN_int ds
  | _, _, _, _ => False
theorem use_cmp_Compare_int : ∀ g ks ds rk xs, ByS P_cmp_Compare_int S_cmp_Compare_int g ks ds rk xs → Corr Tryd.prog lay g ks ds rk xs := by
  intro g ks ds rk xs h
  obtain ⟨h1, rfl⟩ := h
  unfold P_cmp_Compare_int at h1
  split at h1
  · obtain ⟨rfl, rfl, h1⟩ := h1; exact spec_cmp_isNaN_int ds h1
  · exact h1.elim
theorem spec_of_cmp_Compare_int (law : ∀ ds, D.wts (K.tyss k_cmp_Compare_int) ds → p_cmp_Compare_int ds → Ev (ByS P_cmp_Compare_int S_cmp_Compare_int) B_cmp_Compare_int t_cmp_Compare_int ds (s_cmp_Compare_int ds)) : ∀ ds, p_cmp_Compare_int ds → Corr Tryd.prog lay 42 k_cmp_Compare_int ds r_cmp_Compare_int (s_cmp_Compare_int ds) :=
  fun ds hp => .of_wt (by decide) fun hw => correct_cmp_Compare_int ((law ds hw hp).monoC use_cmp_Compare_int)
theorem law_cmp_Compare_int (ds : List D) (hw : D.wts (K.tyss k_cmp_Compare_int) ds) (hp : p_cmp_Compare_int ds) : Ev (ByS P_cmp_Compare_int S_cmp_Compare_int) B_cmp_Compare_int t_cmp_Compare_int ds (s_cmp_Compare_int ds) := by
  obtain ⟨a0, _, rfl, ha0, a1, _, rfl, ha1, rfl⟩ := hw
  obtain ⟨x0, rfl⟩ := ha0
  obtain ⟨x1, rfl⟩ := ha1
  simp [t_cmp_Compare_int, s_cmp_Compare_int, P_cmp_Compare_int, S_cmp_Compare_int, K.rts, K.otyss, K.otys, CK.tyss, K.tyss, K.tys, Ev.ite_iff, Ev.ret_iff, Ev.guard_iff, Ev.jump_iff, Ev.may_iff, Ev.call_iff, E.dens, E.denss, E.den, cmpD, scmpD, k_cmp_isNaN_int, r_cmp_isNaN_int, s_cmp_isNaN_int, p_cmp_isNaN_int, cmpI]
  all_goals (repeat' split) <;> (try simp_all) <;> (try omega)

theorem spec_cmp_Compare_int : ∀ ds, p_cmp_Compare_int ds → Corr Tryd.prog lay 42 k_cmp_Compare_int ds r_cmp_Compare_int (s_cmp_Compare_int ds) := spec_of_cmp_Compare_int law_cmp_Compare_int
/- cmp.Or[int] -/
def k_cmp_Or_int : List K := [(.one (.slc [(.int .i64)]))]
def r_cmp_Or_int : List K := [(.one (.int .i64))]
def b_cmp_Or_int : List Blk := [{ st := [.code [0, 0, 0, 1, 0, 1, 1], .code [1, 0, 0, 1, 0, 1, 1], .inLoop [0, 1, 0, 1, 1], .inBlock 0, .code [1, 1, 1]], σ := { t := [(2, (.sc (.v 0 (.int .i64)))), (3, (.sc (.n .i64 0))), (6, (.sc (.v 1 (.slc [(.int .i64)])))), (7, (.sc (.v 2 (.int .i64)))), (8, (.sc (.v 3 (.int .i64))))], o := [] }, tys := [(.int .i64), (.slc [(.int .i64)]), (.int .i64), (.int .i64)] }]
noncomputable def c_cmp_Or_int : Ctx := mkCtx Tryd.prog lay Tryd.f41 ⟨[], [], []⟩ k_cmp_Or_int r_cmp_Or_int [(3, 0)] b_cmp_Or_int
def t_cmp_Or_int : T :=
 (.jump 0 [(.n .i64 0), (.v 0 (.slc [(.int .i64)])), (.len (.v 0 (.slc [(.int .i64)]))), (.n .i64 0)])
def t0_cmp_Or_int : T :=
 (.ite (.cmp .lss (.v 3 (.int .i64)) (.v 2 (.int .i64)))
  (.guard (.and (.cmp .geq (.v 3 (.int .i64)) (.n .i64 0)) (.cmp .lss (.v 3 (.int .i64)) (.len (.v 1 (.slc [(.int .i64)])))))
  (.ite (.cmp .neq (.cell (.v 1 (.slc [(.int .i64)])) (.v 3 (.int .i64)) 0 (.int .i64)) (.n .i64 0))
   (.ret [(.cell (.v 1 (.slc [(.int .i64)])) (.v 3 (.int .i64)) 0 (.int .i64))])
   (.jump 0 [(.v 0 (.int .i64)), (.v 1 (.slc [(.int .i64)])), (.v 2 (.int .i64)), (.ar .add .i64 (.v 3 (.int .i64)) (.n .i64 1))])))
  (.ret [(.n .i64 0)]))
def B_cmp_Or_int : Nat → T
  | 0 => t0_cmp_Or_int
  | _ => .dead
theorem ok_cmp_Or_int : c_cmp_Or_int.Ok 41 B_cmp_Or_int := ok_of Tryd.func41 (by kernel_rfl) mixed
  (.cons (n := 100000) (by kernel_rfl) (.nil))
theorem correct_cmp_Or_int {ds rs : List D} (h : Ev (Corr Tryd.prog lay) B_cmp_Or_int t_cmp_Or_int ds rs) : Corr Tryd.prog lay 41 k_cmp_Or_int ds r_cmp_Or_int rs :=
  correct_of ok_cmp_Or_int (n := 100000) (t := t_cmp_Or_int) (by kernel_rfl) (by kernel_rfl) h
def S_cmp_Or_int : Nat → List D → List D
  | _, _ => []
def P_cmp_Or_int : Nat → List K → List D → List K → Prop
  | _, _, _, _ => False
theorem use_cmp_Or_int : ∀ g ks ds rk xs, ByS P_cmp_Or_int S_cmp_Or_int g ks ds rk xs → Corr Tryd.prog lay g ks ds rk xs := by
  intro g ks ds rk xs h
  obtain ⟨h1, rfl⟩ := h
  unfold P_cmp_Or_int at h1
  split at h1
  · exact h1.elim
theorem spec_of_cmp_Or_int (law : ∀ ds, D.wts (K.tyss k_cmp_Or_int) ds → p_cmp_Or_int ds → Ev (ByS P_cmp_Or_int S_cmp_Or_int) B_cmp_Or_int t_cmp_Or_int ds (s_cmp_Or_int ds)) : ∀ ds, p_cmp_Or_int ds → Corr Tryd.prog lay 41 k_cmp_Or_int ds r_cmp_Or_int (s_cmp_Or_int ds) :=
  fun ds hp => .of_wt (by decide) fun hw => correct_cmp_Or_int ((law ds hw hp).monoC use_cmp_Or_int)
theorem loop_cmp_Or_int (es : List (List D)) (he : es.length ≤ maxLen) (hwt : ∀ c ∈ es, D.wts [.int .i64] c) (x : D) : ∀ (m i : Nat), es.length - i = m → i ≤ es.length →
    Ev (ByS P_cmp_Or_int S_cmp_Or_int) B_cmp_Or_int t0_cmp_Or_int [x, .slc es, .int .i64 es.length, .int .i64 i] [.int .i64 (orL ((ints (.slc es)).drop i))] := by
  intro m
  induction m with
  | zero =>
    intro i hm h1
    have hi : i = es.length := by omega
    simp [t0_cmp_Or_int, Ev.ite_iff, Ev.guard_iff, Ev.ret_iff, Ev.jump_iff, E.dens, E.den, cmpD, arD, hi]
    rw [ints_nil (Nat.le_refl _)]
    rfl
  | succ m ih =>
    intro i hm h1
    have hlt : i < es.length := by omega
    have hw : IntKind.i64.wrap ((i : Int) + 1) = ((i + 1 : Nat) : Int) := by rw [wrap64 (by omega) (by unfold maxLen at *; omega)]; simp
    simp [t0_cmp_Or_int, Ev.ite_iff, Ev.guard_iff, Ev.ret_iff, Ev.jump_iff, E.dens, E.den, cmpD, arD, hlt, hw]
    rw [drop_cons (ints_get hlt)]
    simp only [orL]
    split
    · exact ih (i + 1) (by omega) (by omega)
    · exact cell_int hwt hlt
theorem law_cmp_Or_int (ds : List D) (hw : D.wts (K.tyss k_cmp_Or_int) ds) (hp : p_cmp_Or_int ds) : Ev (ByS P_cmp_Or_int S_cmp_Or_int) B_cmp_Or_int t_cmp_Or_int ds (s_cmp_Or_int ds) := by
  obtain ⟨a0, _, rfl, ha0, rfl⟩ := hw
  obtain ⟨es, rfl, he, hwt⟩ := ha0
  simp [t_cmp_Or_int, s_cmp_Or_int, Ev.jump_iff, E.dens, E.den]
  exact loop_cmp_Or_int es he hwt _ _ 0 rfl (Nat.zero_le _)

theorem spec_cmp_Or_int : ∀ ds, p_cmp_Or_int ds → Corr Tryd.prog lay 41 k_cmp_Or_int ds r_cmp_Or_int (s_cmp_Or_int ds) := spec_of_cmp_Or_int law_cmp_Or_int
/- familycheck/protocol.Compare -/
def k_protocol_Compare : List K := [(.agg [(.int .i64), (.int .i64), (.int .i64)]), (.agg [(.int .i64), (.int .i64), (.int .i64)])]
def r_protocol_Compare : List K := [(.one (.int .i64))]
def b_protocol_Compare : List Blk := []
noncomputable def c_protocol_Compare : Ctx := mkCtx Tryd.prog lay Tryd.f18 ⟨[(41, [(.one (.int .i64))]), (42, [(.one (.int .i64))])], [], []⟩ k_protocol_Compare r_protocol_Compare [] b_protocol_Compare
def t_protocol_Compare : T :=
 (.call 42 [(.one (.int .i64)), (.one (.int .i64))] [(.v 0 (.int .i64)), (.v 3 (.int .i64))] [(.one (.int .i64))]
 (.call 42 [(.one (.int .i64)), (.one (.int .i64))] [(.v 2 (.int .i64)), (.v 5 (.int .i64))] [(.one (.int .i64))]
 (.call 42 [(.one (.int .i64)), (.one (.int .i64))] [(.v 1 (.int .i64)), (.v 4 (.int .i64))] [(.one (.int .i64))]
 (.call 41 [(.one (.slc [(.int .i64)]))] [(.lit [(.int .i64)] [[(.v 6 (.int .i64))], [(.v 7 (.int .i64))], [(.v 8 (.int .i64))]])] [(.one (.int .i64))]
 (.ret [(.v 9 (.int .i64))])))))
def B_protocol_Compare : Nat → T
  | _ => .dead
theorem ok_protocol_Compare : c_protocol_Compare.Ok 18 B_protocol_Compare := ok_of Tryd.func18 (by kernel_rfl) mixed
  (.nil)
theorem correct_protocol_Compare {ds rs : List D} (h : Ev (Corr Tryd.prog lay) B_protocol_Compare t_protocol_Compare ds rs) : Corr Tryd.prog lay 18 k_protocol_Compare ds r_protocol_Compare rs :=
  correct_of ok_protocol_Compare (n := 100000) (t := t_protocol_Compare) (by kernel_rfl) (by kernel_rfl) h
def S_protocol_Compare : Nat → List D → List D
  | 42, ds => s_cmp_Compare_int ds
  | 41, ds => s_cmp_Or_int ds
  | _, _ => []
def P_protocol_Compare : Nat → List K → List D → List K → Prop
  | 42, ks, ds, rk => ks = k_cmp_Compare_int ∧ rk = r_cmp_Compare_int ∧ p_cmp_Compare_int ds
  | 41, ks, ds, rk => ks = k_cmp_Or_int ∧ rk = r_cmp_Or_int ∧ p_cmp_Or_int ds
  | _, _, _, _ => False
theorem use_protocol_Compare : ∀ g ks ds rk xs, ByS P_protocol_Compare S_protocol_Compare g ks ds rk xs → Corr Tryd.prog lay g ks ds rk xs := by
  intro g ks ds rk xs h
  obtain ⟨h1, rfl⟩ := h
  unfold P_protocol_Compare at h1
  split at h1
  · obtain ⟨rfl, rfl, h1⟩ := h1; exact spec_cmp_Compare_int ds h1
  · obtain ⟨rfl, rfl, h1⟩ := h1; exact spec_cmp_Or_int ds h1
  · exact h1.elim
theorem spec_of_protocol_Compare (law : ∀ ds, D.wts (K.tyss k_protocol_Compare) ds → p_protocol_Compare ds → Ev (ByS P_protocol_Compare S_protocol_Compare) B_protocol_Compare t_protocol_Compare ds (s_protocol_Compare ds)) : ∀ ds, p_protocol_Compare ds → Corr Tryd.prog lay 18 k_protocol_Compare ds r_protocol_Compare (s_protocol_Compare ds) :=
  fun ds hp => .of_wt (by decide) fun hw => correct_protocol_Compare ((law ds hw hp).monoC use_protocol_Compare)
theorem law_protocol_Compare (ds : List D) (hw : D.wts (K.tyss k_protocol_Compare) ds) (hp : p_protocol_Compare ds) : Ev (ByS P_protocol_Compare S_protocol_Compare) B_protocol_Compare t_protocol_Compare ds (s_protocol_Compare ds) := by
  obtain ⟨a0, _, rfl, ha0, a1, _, rfl, ha1, a2, _, rfl, ha2, a3, _, rfl, ha3, a4, _, rfl, ha4, a5, _, rfl, ha5, rfl⟩ := hw
  obtain ⟨x0, rfl⟩ := ha0
  obtain ⟨x1, rfl⟩ := ha1
  obtain ⟨x2, rfl⟩ := ha2
  obtain ⟨x3, rfl⟩ := ha3
  obtain ⟨x4, rfl⟩ := ha4
  obtain ⟨x5, rfl⟩ := ha5
  simp [t_protocol_Compare, s_protocol_Compare, P_protocol_Compare, S_protocol_Compare, K.rts, K.otyss, K.otys, CK.tyss, K.tyss, K.tys, Ev.ite_iff, Ev.ret_iff, Ev.guard_iff, Ev.jump_iff, Ev.may_iff, Ev.call_iff, E.dens, E.denss, E.den, cmpD, scmpD, k_cmp_Compare_int, r_cmp_Compare_int, s_cmp_Compare_int, p_cmp_Compare_int, k_cmp_Or_int, r_cmp_Or_int, s_cmp_Or_int, p_cmp_Or_int, cmp3, ints, orL, cmpL, cmpI]
  all_goals (repeat' split) <;> (try simp_all) <;> (try omega)

theorem spec_protocol_Compare : ∀ ds, p_protocol_Compare ds → Corr Tryd.prog lay 18 k_protocol_Compare ds r_protocol_Compare (s_protocol_Compare ds) := spec_of_protocol_Compare law_protocol_Compare
/- familycheck/familycheckref01.CompareInts -/
def k_ref01_CompareInts : List K := [(.one (.slc [(.int .i64)])), (.one (.slc [(.int .i64)]))]
def r_ref01_CompareInts : List K := [(.one (.int .i64))]
def b_ref01_CompareInts : List Blk := [{ st := [.code [0, 0, 0, 0, 1, 0, 1], .code [1, 0, 0, 0, 1, 0, 1], .code [1, 0, 0, 1, 0, 1], .inLoop [0, 1, 0, 1], .inBlock 0, .code [1, 1]], σ := { t := [(0, (.sc (.v 0 (.slc [(.int .i64)])))), (1, (.sc (.v 1 (.slc [(.int .i64)])))), (4, (.sc (.v 2 (.int .i64)))), (5, (.sc (.v 3 (.int .i64))))], o := [] }, tys := [(.slc [(.int .i64)]), (.slc [(.int .i64)]), (.int .i64), (.int .i64)] }]
noncomputable def c_ref01_CompareInts : Ctx := mkCtx Tryd.prog lay Tryd.f43 ⟨[], [], []⟩ k_ref01_CompareInts r_ref01_CompareInts [(2, 0)] b_ref01_CompareInts
def t_ref01_CompareInts : T :=
 (.jump 0 [(.v 0 (.slc [(.int .i64)])), (.v 1 (.slc [(.int .i64)])), (.n .i64 0), (.n .i64 0)])
def t0_ref01_CompareInts : T :=
 (.ite (.cmp .lss (.v 3 (.int .i64)) (.len (.v 0 (.slc [(.int .i64)]))))
  (.ite (.cmp .lss (.v 3 (.int .i64)) (.len (.v 1 (.slc [(.int .i64)]))))
   (.guard (.and (.cmp .geq (.v 3 (.int .i64)) (.n .i64 0)) (.cmp .lss (.v 3 (.int .i64)) (.len (.v 0 (.slc [(.int .i64)])))))
   (.guard (.and (.cmp .geq (.v 3 (.int .i64)) (.n .i64 0)) (.cmp .lss (.v 3 (.int .i64)) (.len (.v 1 (.slc [(.int .i64)])))))
   (.ite (.cmp .lss (.cell (.v 0 (.slc [(.int .i64)])) (.v 3 (.int .i64)) 0 (.int .i64)) (.cell (.v 1 (.slc [(.int .i64)])) (.v 3 (.int .i64)) 0 (.int .i64)))
    (.ret [(.n .i64 (-1))])
    (.guard (.and (.cmp .geq (.v 3 (.int .i64)) (.n .i64 0)) (.cmp .lss (.v 3 (.int .i64)) (.len (.v 0 (.slc [(.int .i64)])))))
    (.guard (.and (.cmp .geq (.v 3 (.int .i64)) (.n .i64 0)) (.cmp .lss (.v 3 (.int .i64)) (.len (.v 1 (.slc [(.int .i64)])))))
    (.ite (.cmp .gtr (.cell (.v 0 (.slc [(.int .i64)])) (.v 3 (.int .i64)) 0 (.int .i64)) (.cell (.v 1 (.slc [(.int .i64)])) (.v 3 (.int .i64)) 0 (.int .i64)))
     (.ret [(.n .i64 1)])
     (.jump 0 [(.v 0 (.slc [(.int .i64)])), (.v 1 (.slc [(.int .i64)])), (.v 2 (.int .i64)), (.ar .add .i64 (.v 3 (.int .i64)) (.n .i64 1))])))))))
   (.ite (.cmp .lss (.len (.v 0 (.slc [(.int .i64)]))) (.len (.v 1 (.slc [(.int .i64)]))))
    (.ret [(.n .i64 (-1))])
    (.ite (.cmp .gtr (.len (.v 0 (.slc [(.int .i64)]))) (.len (.v 1 (.slc [(.int .i64)]))))
     (.ret [(.n .i64 1)])
     (.ret [(.n .i64 0)]))))
  (.ite (.cmp .lss (.len (.v 0 (.slc [(.int .i64)]))) (.len (.v 1 (.slc [(.int .i64)]))))
   (.ret [(.n .i64 (-1))])
   (.ite (.cmp .gtr (.len (.v 0 (.slc [(.int .i64)]))) (.len (.v 1 (.slc [(.int .i64)]))))
    (.ret [(.n .i64 1)])
    (.ret [(.n .i64 0)]))))
def B_ref01_CompareInts : Nat → T
  | 0 => t0_ref01_CompareInts
  | _ => .dead
theorem ok_ref01_CompareInts : c_ref01_CompareInts.Ok 43 B_ref01_CompareInts := ok_of Tryd.func43 (by kernel_rfl) mixed
  (.cons (n := 100000) (by kernel_rfl) (.nil))
theorem correct_ref01_CompareInts {ds rs : List D} (h : Ev (Corr Tryd.prog lay) B_ref01_CompareInts t_ref01_CompareInts ds rs) : Corr Tryd.prog lay 43 k_ref01_CompareInts ds r_ref01_CompareInts rs :=
  correct_of ok_ref01_CompareInts (n := 100000) (t := t_ref01_CompareInts) (by kernel_rfl) (by kernel_rfl) h
def S_ref01_CompareInts : Nat → List D → List D
  | _, _ => []
def P_ref01_CompareInts : Nat → List K → List D → List K → Prop
  | _, _, _, _ => False
theorem use_ref01_CompareInts : ∀ g ks ds rk xs, ByS P_ref01_CompareInts S_ref01_CompareInts g ks ds rk xs → Corr Tryd.prog lay g ks ds rk xs := by
  intro g ks ds rk xs h
  obtain ⟨h1, rfl⟩ := h
  unfold P_ref01_CompareInts at h1
  split at h1
  · exact h1.elim
theorem spec_of_ref01_CompareInts (law : ∀ ds, D.wts (K.tyss k_ref01_CompareInts) ds → p_ref01_CompareInts ds → Ev (ByS P_ref01_CompareInts S_ref01_CompareInts) B_ref01_CompareInts t_ref01_CompareInts ds (s_ref01_CompareInts ds)) : ∀ ds, p_ref01_CompareInts ds → Corr Tryd.prog lay 43 k_ref01_CompareInts ds r_ref01_CompareInts (s_ref01_CompareInts ds) :=
  fun ds hp => .of_wt (by decide) fun hw => correct_ref01_CompareInts ((law ds hw hp).monoC use_ref01_CompareInts)
theorem loop_ref01_CompareInts (es fs : List (List D)) (he : es.length ≤ maxLen) (_hf : fs.length ≤ maxLen) (x : D) : ∀ (m i : Nat), es.length - i = m → i ≤ es.length → i ≤ fs.length →
    Ev (ByS P_ref01_CompareInts S_ref01_CompareInts) B_ref01_CompareInts t0_ref01_CompareInts [.slc es, .slc fs, x, .int .i64 i] [.int .i64 (cmpL ((ints (.slc es)).drop i) ((ints (.slc fs)).drop i))] := by
  intro m
  induction m with
  | zero =>
    intro i hm h1 h2
    have hi : i = es.length := by omega
    simp [t0_ref01_CompareInts, Ev.ite_iff, Ev.guard_iff, Ev.ret_iff, Ev.jump_iff, E.dens, E.den, cmpD, arD, hi]
    rw [ints_nil (Nat.le_refl _)]
    split
    · rw [drop_cons (ints_get (by omega))]; rfl
    · split
      · omega
      · rw [ints_nil (by omega)]; rfl
  | succ m ih =>
    intro i hm h1 h2
    have hlt : i < es.length := by omega
    simp [t0_ref01_CompareInts, Ev.ite_iff, Ev.guard_iff, Ev.ret_iff, Ev.jump_iff, E.dens, E.den, cmpD, arD, hlt]
    rw [drop_cons (ints_get hlt)]
    split
    · rename_i hlt'
      rw [drop_cons (ints_get hlt')]
      simp only [hlt', List.getElem?_eq_getElem, Option.getD_some, true_and, cmpL]
      split
      · rfl
      · split
        · rfl
        · have hw : IntKind.i64.wrap ((i : Int) + 1) = ((i + 1 : Nat) : Int) := by rw [wrap64 (by omega) (by unfold maxLen at *; omega)]; simp
          rw [hw]
          exact ih (i + 1) (by omega) (by omega) (by omega)
    · rw [ints_nil (es := fs) (by omega)]
      split
      · omega
      · split
        · rfl
        · omega
theorem law_ref01_CompareInts (ds : List D) (hw : D.wts (K.tyss k_ref01_CompareInts) ds) (hp : p_ref01_CompareInts ds) : Ev (ByS P_ref01_CompareInts S_ref01_CompareInts) B_ref01_CompareInts t_ref01_CompareInts ds (s_ref01_CompareInts ds) := by
  obtain ⟨a0, _, rfl, ha0, a1, _, rfl, ha1, rfl⟩ := hw
  obtain ⟨es, rfl, he, _⟩ := ha0
  obtain ⟨fs, rfl, hf, _⟩ := ha1
  simp [t_ref01_CompareInts, s_ref01_CompareInts, Ev.jump_iff, E.dens, E.den]
  exact loop_ref01_CompareInts es fs he hf _ _ 0 rfl (Nat.zero_le _) (Nat.zero_le _)

theorem spec_ref01_CompareInts : ∀ ds, p_ref01_CompareInts ds → Corr Tryd.prog lay 43 k_ref01_CompareInts ds r_ref01_CompareInts (s_ref01_CompareInts ds) := spec_of_ref01_CompareInts law_ref01_CompareInts
/- familycheck/familycheckref02.Compare -/
def k_ref02_Compare : List K := [(.agg [(.int .i64), (.int .i64), (.int .i64)]), (.agg [(.int .i64), (.int .i64), (.int .i64)])]
def r_ref02_Compare : List K := [(.one (.int .i64))]
def b_ref02_Compare : List Blk := []
noncomputable def c_ref02_Compare : Ctx := mkCtx Tryd.prog lay Tryd.f19 ⟨[(43, [(.one (.int .i64))])], [], []⟩ k_ref02_Compare r_ref02_Compare [] b_ref02_Compare
def t_ref02_Compare : T :=
 (.call 43 [(.one (.slc [(.int .i64)])), (.one (.slc [(.int .i64)]))] [(.lit [(.int .i64)] [[(.v 0 (.int .i64))], [(.v 2 (.int .i64))], [(.v 1 (.int .i64))]]), (.lit [(.int .i64)] [[(.v 3 (.int .i64))], [(.v 5 (.int .i64))], [(.v 4 (.int .i64))]])] [(.one (.int .i64))]
 (.ret [(.v 6 (.int .i64))]))
def B_ref02_Compare : Nat → T
  | _ => .dead
theorem ok_ref02_Compare : c_ref02_Compare.Ok 19 B_ref02_Compare := ok_of Tryd.func19 (by kernel_rfl) mixed
  (.nil)
theorem correct_ref02_Compare {ds rs : List D} (h : Ev (Corr Tryd.prog lay) B_ref02_Compare t_ref02_Compare ds rs) : Corr Tryd.prog lay 19 k_ref02_Compare ds r_ref02_Compare rs :=
  correct_of ok_ref02_Compare (n := 100000) (t := t_ref02_Compare) (by kernel_rfl) (by kernel_rfl) h
def S_ref02_Compare : Nat → List D → List D
  | 43, ds => s_ref01_CompareInts ds
  | _, _ => []
def P_ref02_Compare : Nat → List K → List D → List K → Prop
  | 43, ks, ds, rk => ks = k_ref01_CompareInts ∧ rk = r_ref01_CompareInts ∧ p_ref01_CompareInts ds
  | _, _, _, _ => False
theorem use_ref02_Compare : ∀ g ks ds rk xs, ByS P_ref02_Compare S_ref02_Compare g ks ds rk xs → Corr Tryd.prog lay g ks ds rk xs := by
  intro g ks ds rk xs h
  obtain ⟨h1, rfl⟩ := h
  unfold P_ref02_Compare at h1
  split at h1
  · obtain ⟨rfl, rfl, h1⟩ := h1; exact spec_ref01_CompareInts ds h1
  · exact h1.elim
theorem spec_of_ref02_Compare (law : ∀ ds, D.wts (K.tyss k_ref02_Compare) ds → p_ref02_Compare ds → Ev (ByS P_ref02_Compare S_ref02_Compare) B_ref02_Compare t_ref02_Compare ds (s_ref02_Compare ds)) : ∀ ds, p_ref02_Compare ds → Corr Tryd.prog lay 19 k_ref02_Compare ds r_ref02_Compare (s_ref02_Compare ds) :=
  fun ds hp => .of_wt (by decide) fun hw => correct_ref02_Compare ((law ds hw hp).monoC use_ref02_Compare)
theorem law_ref02_Compare (ds : List D) (hw : D.wts (K.tyss k_ref02_Compare) ds) (hp : p_ref02_Compare ds) : Ev (ByS P_ref02_Compare S_ref02_Compare) B_ref02_Compare t_ref02_Compare ds (s_ref02_Compare ds) := by
  obtain ⟨a0, _, rfl, ha0, a1, _, rfl, ha1, a2, _, rfl, ha2, a3, _, rfl, ha3, a4, _, rfl, ha4, a5, _, rfl, ha5, rfl⟩ := hw
  obtain ⟨x0, rfl⟩ := ha0
  obtain ⟨x1, rfl⟩ := ha1
  obtain ⟨x2, rfl⟩ := ha2
  obtain ⟨x3, rfl⟩ := ha3
  obtain ⟨x4, rfl⟩ := ha4
  obtain ⟨x5, rfl⟩ := ha5
  simp [t_ref02_Compare, s_ref02_Compare, P_ref02_Compare, S_ref02_Compare, K.rts, K.otyss, K.otys, CK.tyss, K.tyss, K.tys, Ev.ite_iff, Ev.ret_iff, Ev.guard_iff, Ev.jump_iff, Ev.may_iff, Ev.call_iff, E.dens, E.denss, E.den, cmpD, scmpD, k_ref01_CompareInts, r_ref01_CompareInts, s_ref01_CompareInts, p_ref01_CompareInts, cmp3, ints]
  all_goals (repeat' split) <;> (try simp_all) <;> (try omega)

theorem spec_ref02_Compare : ∀ ds, p_ref02_Compare ds → Corr Tryd.prog lay 19 k_ref02_Compare ds r_ref02_Compare (s_ref02_Compare ds) := spec_of_ref02_Compare law_ref02_Compare
/- familycheck/familychecklaw02.ProtocolOrders -/
def k_law02_ProtocolOrders : List K := [(.agg [(.int .i64), (.int .i64), (.int .i64)]), (.agg [(.int .i64), (.int .i64), (.int .i64)]), (.agg [(.int .i64), (.int .i64), (.int .i64)])]
def r_law02_ProtocolOrders : List K := [(.one .bool)]
def b_law02_ProtocolOrders : List Blk := []
noncomputable def c_law02_ProtocolOrders : Ctx := mkCtx Tryd.prog lay Tryd.f6 ⟨[(9, [(.one .bool)]), (18, [(.one (.int .i64))]), (19, [(.one (.int .i64))])], [], []⟩ k_law02_ProtocolOrders r_law02_ProtocolOrders [] b_law02_ProtocolOrders
def t_law02_ProtocolOrders : T :=
 (.call 18 [(.agg [(.int .i64), (.int .i64), (.int .i64)]), (.agg [(.int .i64), (.int .i64), (.int .i64)])] [(.v 0 (.int .i64)), (.v 1 (.int .i64)), (.v 2 (.int .i64)), (.v 3 (.int .i64)), (.v 4 (.int .i64)), (.v 5 (.int .i64))] [(.one (.int .i64))]
 (.call 18 [(.agg [(.int .i64), (.int .i64), (.int .i64)]), (.agg [(.int .i64), (.int .i64), (.int .i64)])] [(.v 3 (.int .i64)), (.v 4 (.int .i64)), (.v 5 (.int .i64)), (.v 6 (.int .i64)), (.v 7 (.int .i64)), (.v 8 (.int .i64))] [(.one (.int .i64))]
 (.call 18 [(.agg [(.int .i64), (.int .i64), (.int .i64)]), (.agg [(.int .i64), (.int .i64), (.int .i64)])] [(.v 0 (.int .i64)), (.v 1 (.int .i64)), (.v 2 (.int .i64)), (.v 6 (.int .i64)), (.v 7 (.int .i64)), (.v 8 (.int .i64))] [(.one (.int .i64))]
 (.call 19 [(.agg [(.int .i64), (.int .i64), (.int .i64)]), (.agg [(.int .i64), (.int .i64), (.int .i64)])] [(.v 0 (.int .i64)), (.v 1 (.int .i64)), (.v 2 (.int .i64)), (.v 3 (.int .i64)), (.v 4 (.int .i64)), (.v 5 (.int .i64))] [(.one (.int .i64))]
 (.ite (.cmp .eql (.v 9 (.int .i64)) (.v 12 (.int .i64)))
  (.call 18 [(.agg [(.int .i64), (.int .i64), (.int .i64)]), (.agg [(.int .i64), (.int .i64), (.int .i64)])] [(.v 3 (.int .i64)), (.v 4 (.int .i64)), (.v 5 (.int .i64)), (.v 0 (.int .i64)), (.v 1 (.int .i64)), (.v 2 (.int .i64))] [(.one (.int .i64))]
  (.ite (.cmp .eql (.v 13 (.int .i64)) (.neg .i64 (.v 9 (.int .i64))))
   (.ite (.bcmp false (.cmp .eql (.v 9 (.int .i64)) (.n .i64 0)) (.and (.cmp .eql (.v 0 (.int .i64)) (.v 3 (.int .i64))) (.and (.cmp .eql (.v 1 (.int .i64)) (.v 4 (.int .i64))) (.and (.cmp .eql (.v 2 (.int .i64)) (.v 5 (.int .i64))) (.b true)))))
    (.ite (.cmp .gtr (.v 9 (.int .i64)) (.n .i64 0))
     (.call 9 [] [] [(.one .bool)]
     (.ret [(.v 14 .bool)]))
     (.ite (.cmp .gtr (.v 10 (.int .i64)) (.n .i64 0))
      (.call 9 [] [] [(.one .bool)]
      (.ret [(.v 14 .bool)]))
      (.ite (.cmp .leq (.v 11 (.int .i64)) (.n .i64 0))
       (.call 9 [] [] [(.one .bool)]
       (.ret [(.v 14 .bool)]))
       (.ret [(.b false)]))))
    (.ret [(.b false)]))
   (.ret [(.b false)])))
  (.ret [(.b false)]))))))
def B_law02_ProtocolOrders : Nat → T
  | _ => .dead
theorem ok_law02_ProtocolOrders : c_law02_ProtocolOrders.Ok 6 B_law02_ProtocolOrders := ok_of Tryd.func6 (by kernel_rfl) mixed
  (.nil)
theorem correct_law02_ProtocolOrders {ds rs : List D} (h : Ev (Corr Tryd.prog lay) B_law02_ProtocolOrders t_law02_ProtocolOrders ds rs) : Corr Tryd.prog lay 6 k_law02_ProtocolOrders ds r_law02_ProtocolOrders rs :=
  correct_of ok_law02_ProtocolOrders (n := 100000) (t := t_law02_ProtocolOrders) (by kernel_rfl) (by kernel_rfl) h
def S_law02_ProtocolOrders : Nat → List D → List D
  | 18, ds => s_protocol_Compare ds
  | 19, ds => s_ref02_Compare ds
  | 9, ds => s_law02_known ds
  | _, _ => []
def P_law02_ProtocolOrders : Nat → List K → List D → List K → Prop
  | 18, ks, ds, rk => ks = k_protocol_Compare ∧ rk = r_protocol_Compare ∧ p_protocol_Compare ds
  | 19, ks, ds, rk => ks = k_ref02_Compare ∧ rk = r_ref02_Compare ∧ p_ref02_Compare ds
  | 9, ks, ds, rk => ks = k_law02_known ∧ rk = r_law02_known ∧ p_law02_known ds
  | _, _, _, _ => False
theorem use_law02_ProtocolOrders : ∀ g ks ds rk xs, ByS P_law02_ProtocolOrders S_law02_ProtocolOrders g ks ds rk xs → Corr Tryd.prog lay g ks ds rk xs := by
  intro g ks ds rk xs h
  obtain ⟨h1, rfl⟩ := h
  unfold P_law02_ProtocolOrders at h1
  split at h1
  · obtain ⟨rfl, rfl, h1⟩ := h1; exact spec_protocol_Compare ds h1
  · obtain ⟨rfl, rfl, h1⟩ := h1; exact spec_ref02_Compare ds h1
  · obtain ⟨rfl, rfl, h1⟩ := h1; exact spec_law02_known ds h1
  · exact h1.elim
theorem spec_of_law02_ProtocolOrders (law : ∀ ds, D.wts (K.tyss k_law02_ProtocolOrders) ds → p_law02_ProtocolOrders ds → Ev (ByS P_law02_ProtocolOrders S_law02_ProtocolOrders) B_law02_ProtocolOrders t_law02_ProtocolOrders ds (s_law02_ProtocolOrders ds)) : ∀ ds, p_law02_ProtocolOrders ds → Corr Tryd.prog lay 6 k_law02_ProtocolOrders ds r_law02_ProtocolOrders (s_law02_ProtocolOrders ds) :=
  fun ds hp => .of_wt (by decide) fun hw => correct_law02_ProtocolOrders ((law ds hw hp).monoC use_law02_ProtocolOrders)
theorem cmpL_neg : ∀ (a b : List Int), cmpL b a = - cmpL a b
  | [], [] => rfl
  | [], _ :: _ => rfl
  | _ :: _, [] => rfl
  | x :: xs, y :: ys => by
    simp only [cmpL]
    have := cmpL_neg xs ys
    repeat' split
    all_goals omega
theorem cmpL_range : ∀ (a b : List Int), -1 ≤ cmpL a b ∧ cmpL a b ≤ 1
  | [], [] => by simp [cmpL]
  | [], _ :: _ => by simp [cmpL]
  | _ :: _, [] => by simp [cmpL]
  | x :: xs, y :: ys => by
    simp only [cmpL]
    have := cmpL_range xs ys
    repeat' split
    all_goals omega
theorem cmpL_trans : ∀ (a b c : List Int), cmpL a b ≤ 0 → cmpL b c ≤ 0 → cmpL a c ≤ 0
  | [], _, [] => by simp [cmpL]
  | [], _, _ :: _ => by simp [cmpL]
  | _ :: _, [], _ => by simp [cmpL]
  | _ :: _, _ :: _, [] => by simp [cmpL]
  | x :: xs, y :: ys, z :: zs => by
    simp only [cmpL]
    have := cmpL_trans xs ys zs
    repeat' split
    all_goals omega
theorem law_law02_ProtocolOrders (ds : List D) (hw : D.wts (K.tyss k_law02_ProtocolOrders) ds) (hp : p_law02_ProtocolOrders ds) : Ev (ByS P_law02_ProtocolOrders S_law02_ProtocolOrders) B_law02_ProtocolOrders t_law02_ProtocolOrders ds (s_law02_ProtocolOrders ds) := by
  obtain ⟨a0, _, rfl, ⟨x0, rfl⟩, a1, _, rfl, ⟨x1, rfl⟩, a2, _, rfl, ⟨x2, rfl⟩, a3, _, rfl, ⟨x3, rfl⟩, a4, _, rfl, ⟨x4, rfl⟩, a5, _, rfl, ⟨x5, rfl⟩, a6, _, rfl, ⟨x6, rfl⟩, a7, _, rfl, ⟨x7, rfl⟩, a8, _, rfl, ⟨x8, rfl⟩, rfl⟩ := hw
  simp [t_law02_ProtocolOrders, s_law02_ProtocolOrders, P_law02_ProtocolOrders, S_law02_ProtocolOrders, k_protocol_Compare, r_protocol_Compare, k_ref02_Compare, r_ref02_Compare, s_protocol_Compare, p_protocol_Compare, s_ref02_Compare, p_ref02_Compare, k_law02_known, r_law02_known, s_law02_known, p_law02_known, K.rts, K.otyss, K.otys, CK.tyss, CK.tys, K.tyss, K.tys, Ev.ite_iff, Ev.ret_iff, Ev.call_iff, E.dens, E.den, cmpD, cmp3]
  have hr := cmpL_range [x0, x2, x1] [x3, x5, x4]
  refine ⟨?_, ?_, cmpL_trans _ _ _⟩
  · rw [cmpL_neg [x0, x2, x1], wrap64 (by omega) (by omega)]
  · rw [Bool.eq_iff_iff]
    simp only [beq_iff_eq, Bool.and_eq_true, cmpL_zero, List.cons.injEq, and_true]
    constructor
    · rintro ⟨h, h', h''⟩; exact ⟨h, h'', h'⟩
    · rintro ⟨h, h', h''⟩; exact ⟨h, h'', h'⟩

theorem spec_law02_ProtocolOrders : ∀ ds, p_law02_ProtocolOrders ds → Corr Tryd.prog lay 6 k_law02_ProtocolOrders ds r_law02_ProtocolOrders (s_law02_ProtocolOrders ds) := spec_of_law02_ProtocolOrders law_law02_ProtocolOrders
end Fw.SA
