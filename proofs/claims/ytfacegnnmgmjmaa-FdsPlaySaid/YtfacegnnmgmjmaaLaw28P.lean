/- Chapter 28: the law FdsPlay, walked. -/
import Derived.Test.YtfacegnnmgmjmaaPlyJ
import Derived.Test.YtfacegnnmgmjmaaRngW
import Derived.Deep.CutBlock
namespace Go.Proofs.Ytfacegnnmgmjmaa
open Go.RowKit _root_.Go.Proofs.YtfacegnnmgmjmaaW.PrintLast
set_option linter.unusedSimpArgs false
set_option linter.unusedVariables false

theorem plain_lit (x : FileT) (b : Bool) (w : World) : Calls Try.prog 18 #[.agg (fv x), .bool b] w fun e w' => e = .returned (.agg #[.int .i64 x.1, .int .i64 x.2.1, .int .i64 x.2.2.1, .int .i64 x.2.2.2, .bool b]) ∧ Below w.heap.size w w' := plain_is x b w
theorem opc_7 (k pr fd n : Int) (x : FileT) : (opc k pr fd n x)[7]? = some (.int .i64 x.2.2.2) := rfl
theorem fv_one (x : FileT) : (fv x).all (·.oneCell') = true := by simp [fv, Value.oneCell']
theorem pfv_one (x : FileT) (b : Bool) : (pfv x b).all (·.oneCell') = true := by simp [pfv, Value.oneCell']
section
variable {ops : Array Oper} {rest : List Oper} {Q : Exit → Act → World → Prop} {tmps : Array Value} {df : List Deferred} {d ty t u : Nat} {x : Operand} {ps : String} {af : Array Edge} {gd : Option (Nat × Bool)} {w : World}
theorem ev_buildT (h : Region.wanted ⟨some d, .build 47 #[], ty, ps, af, gd⟩ (yielded ops tmps) = true ∧ wpList Try.prog ops Q rest (Act.put ⟨tmps, df⟩ (some d) (.agg (qc fun _ => none))) w) :
    wpList Try.prog ops Q (⟨some d, .build 47 #[], ty, ps, af, gd⟩ :: rest) ⟨tmps, df⟩ w := by
  refine wpl_run h.1 ?_ h.2
  have e : (Instr.build 47 #[]).run Try.prog w = .ok (.agg (qc fun _ => none)) w := by rw [qc_zero]; kernel_rfl
  simp only [execOp]
  rw [show (#[] : Array (Nat × Operand)).map (fun y => (y.1, Act.eval ⟨tmps, df⟩ y.2)) = #[] from by simp]
  simp only [Sem.run_bind, e, Result.andThen_ok]
  rfl
end
section
variable {P : Program} {ops : Array Oper} {Q : Exit → Act → World → Prop} {fuel : Nat} {df : List Deferred} {srcs : List (Nat × Obj)} {T : TypeId}
theorem ldF_take {ops : Array Oper} {Q : Exit → Act → World → Prop} {L : Array Bool} {tmps : Array Value} {w : World} {i d s g : Nat} {k pr fd n : Int} {y : FileT} {ty : TypeId} {ps : String} {af : Array Edge} (L' : Array Bool) (hi : ops[i]? = some ⟨some d, .load 27 (.tmp s), ty, ps, af, none⟩) (hc : takeB .any ops [] L L' i = true)
    (hQ : ∀ v c a w, Q (.panic c) (a.put (some d) v) w → Q (.panic c) a w) (hs : tmps.getD s undef = .pointer (some ⟨g, 4, none⟩)) (hS : Held srcs w) (hm : (g, Obj.cells (opc k pr fd n y) 29 (0, 0)) ∈ srcs)
    (h : wpAnyLast Try.prog .any ops Q (Held srcs) [] fuel L' (Act.put ⟨tmps, df⟩ (some d) (.agg (fv y))) w) : wpAnyLast Try.prog .any ops Q (Held srcs) [] (fuel + 1) L ⟨tmps, df⟩ w := by
  refine take_ (v := .agg (fv y)) L' hi rfl hc (hQ _) (.inl ⟨rfl, fun w' hS' => ?_⟩) hS rfl h
  have hs' : Act.eval ⟨tmps, df⟩ (.tmp s) = .pointer (some ⟨g, 4, none⟩) := hs
  have hr := run_loadVar_at (P := Try.prog) w' ⟨g, 4, none⟩ 27 (fv y).toList _ (fun j v hv => by
    rw [Addr.add_mid, cell_of_row w' g _ _ _ _ (hS' _ hm)]
    have hj : j < 4 := by simpa [fv] using (List.getElem?_eq_some_iff.1 hv).1
    rcases (by omega : j = 0 ∨ j = 1 ∨ j = 2 ∨ j = 3) with rfl | rfl | rfl | rfl <;> exact hv) Try.underlying27 rfl (by rw [aX1.2]; rfl)
  simp only [execOp, hs', Instr.loadAt, Instr.sureAddr, Sem.run_bind, Sem.run_pure, Result.andThen_ok, hr]
/-- A number out of a held block is taken first. -/
theorem ld1_take {L : Array Bool} {tmps : Array Value} {w : World} {i d s g o : Nat} {cur : Array Value} {v : Value} {T' ty : TypeId} {ps : String} {af : Array Edge} (L' : Array Bool) (hi : ops[i]? = some ⟨some d, .load T (.tmp s), ty, ps, af, none⟩) (hc : takeB .any ops [] L L' i = true)
    (hQ : ∀ v c a w, Q (.panic c) (a.put (some d) v) w → Q (.panic c) a w) (hT : OneT P T) (hs : tmps.getD s undef = .pointer (some ⟨g, o, none⟩)) (hS : Held srcs w) (hm : (g, Obj.cells cur T' (0, 0)) ∈ srcs) (hv : cur[o]? = some v)
    (h : wpAnyLast P .any ops Q (Held srcs) [] fuel L' (Act.put ⟨tmps, df⟩ (some d) v) w) : wpAnyLast P .any ops Q (Held srcs) [] (fuel + 1) L ⟨tmps, df⟩ w := by
  refine take_ (v := v) L' hi rfl hc (hQ _) (.inl ⟨rfl, fun w' hS' => ?_⟩) hS rfl h
  have hs' : Act.eval ⟨tmps, df⟩ (.tmp s) = .pointer (some ⟨g, o, none⟩) := hs
  have hcell : w'.cell? ⟨g, o, none⟩ = some v := (cell_of_row w' g o cur T' (0, 0) (hS' _ hm)).trans hv
  simp [execOp, hs', Instr.loadAt, Instr.sureAddr, Sem.run_bind, loadVar, run_isAgg_false hT, hcell]
end
theorem held_nil {w : World} : Held [] w := fun x hx => by cases hx
theorem held_cons {w : World} {g : Nat} {o : Obj} {l : List (Nat × Obj)} (h : w.heap[g]? = some o) (hl : Held l w) : Held ((g, o) :: l) w := fun x hx => by
  rcases List.mem_cons.1 hx with rfl | hx
  · exact h
  · exact hl x hx
set_option maxRecDepth 100000 in
/-- Where the ways of an Op meet. -/
@[irreducible] def playRel (w : World) (tb rb gO : Nat) (x : Addr) (len cap k : Nat) (K pr fd n : Int) (y : FileT) (a' : Act) (w' : World) : Prop :=
  ∃ u : Nat → Value, (∃ (p' : Nat → Option Nat) (f' : Nat → FileT), St w ((gO, .cells (opc K pr fd n y) 29 (0, 0)) :: tabL tb rb p' f' (qOf p' f')) w' ∧ WfF p' f') ∧ a' = ⟨#[.slice (some x) len cap, undef, u 2, .pointer (some ⟨tb, 0, none⟩), .pointer (some ⟨rb, 0, none⟩), undef, .pointer (some ⟨gO, 0, none⟩), u 7, u 8, u 9, u 10, u 11, u 12, u 13, u 14, u 15, u 16, u 17, u 18, u 19, u 20, u 21, u 22, .bool true, .bool false, .slice (some x) len cap, .int .i64 len, .bool false, .pointer (some ⟨tb, 0, none⟩), .agg (qc fun _ => none), .pointer (some ⟨rb, 0, none⟩), .slice (some x) len cap, .int .i64 len, .int .i64 k, u 34, u 35, u 36, u 37, u 38, u 39, u 40, u 41, u 42, u 43, u 44, u 45, u 46, u 47, u 48, u 49, u 50, u 51, u 52, u 53, u 54, u 55, u 56, u 57, u 58, u 59, u 60, u 61, u 62, u 63, u 64, u 65, u 66, u 67, u 68, u 69, u 70, u 71, u 72, u 73, u 74, u 75, u 76, u 77, u 78, u 79, u 80, u 81, u 82, u 83, u 84, u 85, u 86, u 87, u 88, u 89, u 90, u 91, u 92, u 93, u 94, u 95, u 96, u 97, u 98, u 99, u 100, u 101, u 102, u 103, u 104, u 105, u 106, u 107, u 108, u 109, u 110, u 111, u 112, u 113, u 114, u 115, u 116, u 117, u 118, u 119, u 120, u 121, u 122, u 123, u 124, u 125, u 126, u 127, u 128, u 129, u 130, u 131, u 132, u 133, u 134, u 135, u 136, u 137, u 138, u 139, u 140, u 141, u 142, u 143, u 144, u 145, u 146, u 147, u 148, u 149, u 150, u 151, u 152, u 153, u 154, u 155, u 156, u 157, u 158, u 159, u 160, u 161, u 162, u 163, u 164, u 165, u 166, u 167, u 168, u 169, u 170, u 171, u 172, u 173, u 174, u 175, u 176, u 177, u 178, u 179, u 180, u 181, u 182, u 183, u 184, u 185, u 186, u 187, u 188, u 189, u 190, u 191, u 192, u 193, u 194, u 195, u 196, u 197, u 198, u 199, u 200, u 201, u 202, u 203, u 204, u 205, u 206, u 207, u 208, u 209, u 210, u 211, u 212, u 213, u 214, u 215, u 216, u 217, u 218, u 219, u 220, u 221, u 222, u 223, u 224, u 225, u 226, u 227, u 228, u 229, u 230, u 231, u 232, u 233], []⟩
set_option maxRecDepth 100000 in
theorem playRel_mk {w : World} {tb rb gO : Nat} {x : Addr} {len cap k : Nat} {K pr fd n : Int} {y : FileT} {w' : World} (l : List Value) (p' : Nat → Option Nat) (f' : Nat → FileT) (h1 : St w ((gO, .cells (opc K pr fd n y) 29 (0, 0)) :: tabL tb rb p' f' (qOf p' f')) w') (h2 : WfF p' f')
    (h : l.toArray = #[.slice (some x) len cap, undef, l.getD 2 undef, .pointer (some ⟨tb, 0, none⟩), .pointer (some ⟨rb, 0, none⟩), undef, .pointer (some ⟨gO, 0, none⟩), l.getD 7 undef, l.getD 8 undef, l.getD 9 undef, l.getD 10 undef, l.getD 11 undef, l.getD 12 undef, l.getD 13 undef, l.getD 14 undef, l.getD 15 undef, l.getD 16 undef, l.getD 17 undef, l.getD 18 undef, l.getD 19 undef, l.getD 20 undef, l.getD 21 undef, l.getD 22 undef, .bool true, .bool false, .slice (some x) len cap, .int .i64 len, .bool false, .pointer (some ⟨tb, 0, none⟩), .agg (qc fun _ => none), .pointer (some ⟨rb, 0, none⟩), .slice (some x) len cap, .int .i64 len, .int .i64 k, l.getD 34 undef, l.getD 35 undef, l.getD 36 undef, l.getD 37 undef, l.getD 38 undef, l.getD 39 undef, l.getD 40 undef, l.getD 41 undef, l.getD 42 undef, l.getD 43 undef, l.getD 44 undef, l.getD 45 undef, l.getD 46 undef, l.getD 47 undef, l.getD 48 undef, l.getD 49 undef, l.getD 50 undef, l.getD 51 undef, l.getD 52 undef, l.getD 53 undef, l.getD 54 undef, l.getD 55 undef, l.getD 56 undef, l.getD 57 undef, l.getD 58 undef, l.getD 59 undef, l.getD 60 undef, l.getD 61 undef, l.getD 62 undef, l.getD 63 undef, l.getD 64 undef, l.getD 65 undef, l.getD 66 undef, l.getD 67 undef, l.getD 68 undef, l.getD 69 undef, l.getD 70 undef, l.getD 71 undef, l.getD 72 undef, l.getD 73 undef, l.getD 74 undef, l.getD 75 undef, l.getD 76 undef, l.getD 77 undef, l.getD 78 undef, l.getD 79 undef, l.getD 80 undef, l.getD 81 undef, l.getD 82 undef, l.getD 83 undef, l.getD 84 undef, l.getD 85 undef, l.getD 86 undef, l.getD 87 undef, l.getD 88 undef, l.getD 89 undef, l.getD 90 undef, l.getD 91 undef, l.getD 92 undef, l.getD 93 undef, l.getD 94 undef, l.getD 95 undef, l.getD 96 undef, l.getD 97 undef, l.getD 98 undef, l.getD 99 undef, l.getD 100 undef, l.getD 101 undef, l.getD 102 undef, l.getD 103 undef, l.getD 104 undef, l.getD 105 undef, l.getD 106 undef, l.getD 107 undef, l.getD 108 undef, l.getD 109 undef, l.getD 110 undef, l.getD 111 undef, l.getD 112 undef, l.getD 113 undef, l.getD 114 undef, l.getD 115 undef, l.getD 116 undef, l.getD 117 undef, l.getD 118 undef, l.getD 119 undef, l.getD 120 undef, l.getD 121 undef, l.getD 122 undef, l.getD 123 undef, l.getD 124 undef, l.getD 125 undef, l.getD 126 undef, l.getD 127 undef, l.getD 128 undef, l.getD 129 undef, l.getD 130 undef, l.getD 131 undef, l.getD 132 undef, l.getD 133 undef, l.getD 134 undef, l.getD 135 undef, l.getD 136 undef, l.getD 137 undef, l.getD 138 undef, l.getD 139 undef, l.getD 140 undef, l.getD 141 undef, l.getD 142 undef, l.getD 143 undef, l.getD 144 undef, l.getD 145 undef, l.getD 146 undef, l.getD 147 undef, l.getD 148 undef, l.getD 149 undef, l.getD 150 undef, l.getD 151 undef, l.getD 152 undef, l.getD 153 undef, l.getD 154 undef, l.getD 155 undef, l.getD 156 undef, l.getD 157 undef, l.getD 158 undef, l.getD 159 undef, l.getD 160 undef, l.getD 161 undef, l.getD 162 undef, l.getD 163 undef, l.getD 164 undef, l.getD 165 undef, l.getD 166 undef, l.getD 167 undef, l.getD 168 undef, l.getD 169 undef, l.getD 170 undef, l.getD 171 undef, l.getD 172 undef, l.getD 173 undef, l.getD 174 undef, l.getD 175 undef, l.getD 176 undef, l.getD 177 undef, l.getD 178 undef, l.getD 179 undef, l.getD 180 undef, l.getD 181 undef, l.getD 182 undef, l.getD 183 undef, l.getD 184 undef, l.getD 185 undef, l.getD 186 undef, l.getD 187 undef, l.getD 188 undef, l.getD 189 undef, l.getD 190 undef, l.getD 191 undef, l.getD 192 undef, l.getD 193 undef, l.getD 194 undef, l.getD 195 undef, l.getD 196 undef, l.getD 197 undef, l.getD 198 undef, l.getD 199 undef, l.getD 200 undef, l.getD 201 undef, l.getD 202 undef, l.getD 203 undef, l.getD 204 undef, l.getD 205 undef, l.getD 206 undef, l.getD 207 undef, l.getD 208 undef, l.getD 209 undef, l.getD 210 undef, l.getD 211 undef, l.getD 212 undef, l.getD 213 undef, l.getD 214 undef, l.getD 215 undef, l.getD 216 undef, l.getD 217 undef, l.getD 218 undef, l.getD 219 undef, l.getD 220 undef, l.getD 221 undef, l.getD 222 undef, l.getD 223 undef, l.getD 224 undef, l.getD 225 undef, l.getD 226 undef, l.getD 227 undef, l.getD 228 undef, l.getD 229 undef, l.getD 230 undef, l.getD 231 undef, l.getD 232 undef, l.getD 233 undef]) : playRel w tb rb gO x len cap k K pr fd n y ⟨l.toArray, []⟩ w' := by
  unfold playRel
  exact ⟨fun i => l.getD i undef, ⟨p', f', h1, h2⟩, by rw [← h]⟩
set_option maxHeartbeats 16000000 in
set_option maxRecDepth 100000 in
theorem walk_FdsPlay (a : Option Addr) (os : List OpT) (cap : Nat) (w : World) (hl : OpSl w a os) (hn : os.length ≤ 140737488355328) (hwf : ∀ o ∈ os, (Lit.int .i64 o.2.2.2.2.2.2.2).wf = true) :
    Calls Try.prog 6 #[.slice a os.length cap] w fun e w' => e = .returned (.bool true) ∧ Below w.heap.size w w' := by
  by_cases h150 : 150 < os.length
  · have e1 : decide ((os.length : Int) > 150) = true := decide_eq_true (by omega)
    clear hwf
    go_enter Try.func6, Try.ntmps6
    go_wp2_with (go_at_call 8; refine (awake28 _).mono ?_; rintro e w1 ⟨rfl, hb1⟩)
    go_ret
    exact ⟨rfl, hb1⟩
  have e1 : decide ((os.length : Int) > 150) = false := decide_eq_false (by omega)
  have HWF := Lib.hid hwf
  clear hwf
  have hSt := St.start w
  go_enter Try.func6, Try.ntmps6
  go_upto_region 6 with (first
    | (go_at_call 8; refine (awake28 _).mono ?_; rintro e w1 ⟨rfl, hb1⟩)
    | (go_at_call 9; refine (new_is _).mono ?_; rintro e w2 ⟨tb, rfl, htb0, hT0, hb2⟩; clear hSt; have hSt : St w2 [] w2 := St.start w2)
    | ((with_reducible refine ev_buildT ?_); refine ⟨rfl, ?_⟩; (simp only [Act.put, List.setIfInBounds_toArray, List.set_cons_succ, List.set_cons_zero]))
    | ((with_reducible refine ev_box hSt ?_); refine ⟨rfl, _, rfl, ?_⟩; intro gN wN hSt; (simp only [Act.put, List.setIfInBounds_toArray, List.set_cons_succ, List.set_cons_zero])))
  rename Nat => rb
  have htb : w.heap.size ≤ tb := Nat.le_trans hb1.size htb0
  have hb12 : Below w.heap.size w w2 := hb1.trans (hb2.mono hb1.size)
  have hrb := hSt.own _ (List.mem_cons_self ..)
  have hPX0 : PX w _ [] tb rb (fun _ => none) fs0 (qOf (fun _ => none) fs0) := ⟨hT0.ext hSt.base, hrb.1, fun i j g _ _ h => (by cases h), fun i g _ h => (by cases h), htb, Nat.le_trans hb12.size hrb.2, fun e => by have := lt_of_blk hT0.tab; have := hrb.2; omega, hb12.trans (hSt.base.mono hb12.size), fun x hx => (by cases hx), List.nodup_nil⟩
  have hW0 : WfF (fun _ => none) fs0 := fun i _ h => (by cases h)
  have HP := Lib.hid (And.intro hPX0 hW0)
  have HL := Lib.hid hl
  clear hPX0 hW0 htb hb12 hrb hSt hT0 hb1 hb2 htb0 hl
  go_wp2
  go_loopw [33] (fun i wr => ∃ (k : Nat) (p : Nat → Option Nat) (f : Nat → FileT), k ≤ os.length ∧ i = .int .i64 k ∧ PX w wr [] tb rb p f (qOf p f) ∧ WfF p f) (fun i _ => os.length - (intOf i).toNat)
  case atStart => exact ⟨0, _, _, by omega, rfl, HP.out.1, HP.out.2⟩
  case round =>
    clear HP
    obtain ⟨k, p, f, hk, rfl, hPX, hW⟩ := hrel
    by_cases h : k = os.length
    · subst h
      go_wp2
      go_ret
      exact ⟨rfl, hPX.base⟩
    · have hlt : k < os.length := by omega
      have hlt' : (k : Int) < os.length := by omega
      obtain ⟨x, rfl, hat⟩ := HL.out.ext hPX.base k hlt
      have hy := HWF.out _ (List.getElem_mem hlt)
      generalize os[k] = o at hat hy
      obtain ⟨K, pr, fd, n, y⟩ := o
      have hat' : ∀ i v, (opc K pr fd n y)[i]? = some v → wr.cell? ((x.add (k * 8)).add i) = some v := hat
      replace hy : (Lit.int .i64 y.2.2.2).wf = true := hy
      clear hat
      have hat := hat'
      clear hat'
      have hSt := hPX.st
      rw [List.nil_append] at hSt
      clear hPX
      go_upto_block 2 with (first | ((with_reducible refine op_load_at ?_); refine ⟨rfl, _, _, _, _, _, _, rfl, hat, ?_⟩; (simp only [Act.put, List.setIfInBounds_toArray, List.set_cons_succ, List.set_cons_zero])) | ((with_reducible refine ev_alloc hSt zOp ?_); refine ⟨rfl, ?_⟩; intro gO wN hSt; (simp only [Act.put, List.setIfInBounds_toArray, List.set_cons_succ, List.set_cons_zero])) | ((with_reducible refine ev_store hSt aOp ?_); refine ⟨rfl, _, [], _, _, _, rfl, rfl, rfl, rfl, rfl, (by simp [opc, Value.oneCell']), ?_⟩; intro wN hSt; simp only [List.nil_append] at hSt; simp only [Act.put]) | ((with_reducible refine ev_load1 hSt oInt ?_); refine ⟨rfl, _, _, _, _, _, rfl, (by repeat (first | exact List.mem_cons_self .. | refine List.mem_cons_of_mem _ ?_)), (by first | exact opc_0 _ _ _ _ _ | exact opc_1 _ _ _ _ _ | exact opc_2 _ _ _ _ _ | exact opc_3 _ _ _ _ _ | exact opc_4 _ _ _ _ _ | exact opc_7 _ _ _ _ _), ?_⟩; (simp only [Act.put, List.setIfInBounds_toArray, List.set_cons_succ, List.set_cons_zero])))
      refine wp_cut (playRel w tb rb gO x os.length cap k K pr fd n y) ?rest ?first
      case first =>
        intro J K' hJ hK'
        by_cases h0 : K = 0
        · skip
          as_aux_lemma =>
            have hK0 : (K == 0) = true := beq_iff_eq.2 h0
            clear h0
            go_upto_region 12 with (first | ((with_reducible refine ev_load1 hSt oInt ?_); refine ⟨rfl, _, _, _, _, _, rfl, (by repeat (first | exact List.mem_cons_self .. | refine List.mem_cons_of_mem _ ?_)), (by first | exact opc_0 _ _ _ _ _ | exact opc_1 _ _ _ _ _ | exact opc_2 _ _ _ _ _ | exact opc_3 _ _ _ _ _ | exact opc_4 _ _ _ _ _ | exact opc_7 _ _ _ _ _), ?_⟩; (simp only [Act.put, List.setIfInBounds_toArray, List.set_cons_succ, List.set_cons_zero])) | ((with_reducible refine ev_load_op hSt ?_); refine ⟨rfl, _, _, _, _, _, _, rfl, (by repeat (first | exact List.mem_cons_self .. | refine List.mem_cons_of_mem _ ?_)), ?_⟩; (simp only [Act.put, List.setIfInBounds_toArray, List.set_cons_succ, List.set_cons_zero])) | (go_at_call 12; refine (play_open _ y hy _ (PX.of (own := [(gO, .cells (opc K pr fd n y) 29 (0, 0))]) hSt) hW).mono ?_; rintro r w7 ⟨i0, e0, p', f', rfl, hX, hW', hRef⟩; clear hSt; have hSt := hX.st))
            replace hSt := hSt.drew
            refine start_ (n := 12) (S := Held [(gO, .cells (opc K pr fd n y) 29 (0, 0))]) (ds := []) #[false, false, false, false, false, false, false, false, false, false, false, false] mixed28 rfl rfl (held_cons (hSt.blk (by repeat (first | exact List.mem_cons_self .. | refine List.mem_cons_of_mem _ ?_))) held_nil) (fun hH => ?_)
            refine pure_ (i := 0) (N := some 51) (v := .pointer (some ⟨rb, 0, none⟩)) #[true, false, false, false, false, false, false, false, false, false, false, false] rfl rfl (by kernel_rfl) (fun _ _ _ h => h) (.inl ⟨rfl, fun w' => ?_⟩) rfl ?_
            · go_simp
              try with_reducible rfl
            (simp only [Act.put, List.setIfInBounds_toArray, List.set_cons_succ, List.set_cons_zero])
            refine pure_ (i := 1) (N := some 52) (v := .pointer (some ⟨gO, 1, none⟩)) #[true, true, false, false, false, false, false, false, false, false, false, false] rfl rfl (by kernel_rfl) (fun _ _ _ h => h) (.inl ⟨rfl, fun w' => ?_⟩) rfl ?_
            · go_simp
              try with_reducible rfl
            (simp only [Act.put, List.setIfInBounds_toArray, List.set_cons_succ, List.set_cons_zero])
            refine ld1_take (i := 2) #[true, true, true, false, false, false, false, false, false, false, false, false] rfl (by kernel_rfl) (fun _ _ _ _ h => h) oInt rfl hH (List.mem_cons_self ..) (opc_1 _ _ _ _ _) ?_
            (simp only [Act.put, List.setIfInBounds_toArray, List.set_cons_succ, List.set_cons_zero])
            refine pure_ (i := 3) (N := some 54) (v := .pointer (some ⟨gO, 4, none⟩)) #[true, true, true, true, false, false, false, false, false, false, false, false] rfl rfl (by kernel_rfl) (fun _ _ _ h => h) (.inl ⟨rfl, fun w' => ?_⟩) rfl ?_
            · go_simp
              try with_reducible rfl
            (simp only [Act.put, List.setIfInBounds_toArray, List.set_cons_succ, List.set_cons_zero])
            refine ldF_take (i := 4) #[true, true, true, true, true, false, false, false, false, false, false, false] rfl (by kernel_rfl) (fun _ _ _ _ h => h) rfl hH (List.mem_cons_self ..) ?_
            (simp only [Act.put, List.setIfInBounds_toArray, List.set_cons_succ, List.set_cons_zero])
            refine one_ (i := 5) (N := some 56) #[true, true, true, true, true, true, false, false, false, false, false, false] rfl rfl (by kernel_rfl) (by simp) (fun Kx hKx => ?_)
            refine goes_ (N := some 56) Try.func18 (by kernel_rfl) rfl #[.agg (fv y), .bool true] rfl rfl rfl (by simp [Act.eval]) ?_
            refine (plain_is y true _).mono ?_
            rintro r w8 ⟨rfl, hb9⟩
            replace hSt := hSt.ext hb9
            refine ⟨_, rfl, hKx.out _ _ (held_cons (hSt.blk (by repeat (first | exact List.mem_cons_self .. | refine List.mem_cons_of_mem _ ?_))) held_nil) fun hH => ?_⟩
            clear hKx
            (simp only [Act.put, List.setIfInBounds_toArray, List.set_cons_succ, List.set_cons_zero])
            refine one_ (i := 6) (N := some 57) #[true, true, true, true, true, true, true, false, false, false, false, false] rfl rfl (by kernel_rfl) (by simp) (fun Kx hKx => ?_)
            refine goes_ (N := some 57) Try.func17 (by kernel_rfl) rfl #[.pointer (some ⟨rb, 0, none⟩), .int .i64 pr, .agg (pfv y true)] rfl rfl rfl (by simp [Act.eval]) ?_
            refine (hRef _ _ (PX.of (own := [(gO, .cells (opc K pr fd n y) 29 (0, 0))]) hSt)).mono ?_
            rintro r w9 ⟨rfl, hX2⟩
            clear hSt
            have hSt := hX2.st
            refine ⟨_, rfl, hKx.out _ _ (held_cons (hSt.blk (by repeat (first | exact List.mem_cons_self .. | refine List.mem_cons_of_mem _ ?_))) held_nil) fun hH => ?_⟩
            clear hKx
            (simp only [Act.put, List.setIfInBounds_toArray, List.set_cons_succ, List.set_cons_zero])
            refine pure_ (i := 7) (N := some 50) (v := .tuple #[.int .i64 i0, .int .i64 e0]) #[true, true, true, true, true, true, true, true, false, false, false, false] rfl rfl (by kernel_rfl) (fun _ _ _ h => h) (.inl ⟨rfl, fun w' => ?_⟩) rfl ?_
            · go_simp
              try with_reducible rfl
            (simp only [Act.put, List.setIfInBounds_toArray, List.set_cons_succ, List.set_cons_zero])
            refine pure_ (i := 8) (N := some 58) (v := .int .i64 i0) #[true, true, true, true, true, true, true, true, true, false, false, false] rfl rfl (by kernel_rfl) (fun _ _ _ h => h) (.inl ⟨rfl, fun w' => ?_⟩) rfl ?_
            · go_simp
              try with_reducible rfl
            (simp only [Act.put, List.setIfInBounds_toArray, List.set_cons_succ, List.set_cons_zero])
            refine pure_ (i := 9) (N := some 59) (v := .int .i64 e0) #[true, true, true, true, true, true, true, true, true, true, false, false] rfl rfl (by kernel_rfl) (fun _ _ _ h => h) (.inl ⟨rfl, fun w' => ?_⟩) rfl ?_
            · go_simp
              try with_reducible rfl
            (simp only [Act.put, List.setIfInBounds_toArray, List.set_cons_succ, List.set_cons_zero])
            refine pure_ (i := 10) (N := some 9) (v := .int .i64 i0) #[true, true, true, true, true, true, true, true, true, true, true, false] rfl rfl (by kernel_rfl) (fun _ _ _ h => h) (.inl ⟨rfl, fun w' => ?_⟩) rfl ?_
            · go_simp
              try with_reducible rfl
            (simp only [Act.put, List.setIfInBounds_toArray, List.set_cons_succ, List.set_cons_zero])
            refine pure_ (i := 11) (N := some 10) (v := .int .i64 e0) #[true, true, true, true, true, true, true, true, true, true, true, true] rfl rfl (by kernel_rfl) (fun _ _ _ h => h) (.inl ⟨rfl, fun w' => ?_⟩) rfl ?_
            · go_simp
              try with_reducible rfl
            (simp only [Act.put, List.setIfInBounds_toArray, List.set_cons_succ, List.set_cons_zero])
            refine done_ (by kernel_rfl) ?_
            clear hRef hX hX2
            go_wp2
            first | refine Met.intro (hJ _ _ ?_) | refine hK' _ _ (Met.intro (hJ _ _ ?_))
            exact playRel_mk _ p' f' hSt hW' (by kernel_rfl)
        by_cases h1 : K = 1
        · skip
          as_aux_lemma =>
            have hK0 : (K == 0) = false := beq_eq_false_iff_ne.2 h0
            have hK1 : (K == 1) = true := beq_iff_eq.2 h1
            have hK3 : (K == 3) = false := beq_eq_false_iff_ne.2 (by omega)
            clear h0 h1
            obtain ⟨x1, e0, p', hG1, hG2, hC1, hC2, hW'⟩ := play_close (w0 := w) (tb := tb) (rb := rb) pr fd p f hW
            generalize hb1 : (e0 == 0) = b1 at hG2 hC2
            go_upto_region 19 with (first | ((with_reducible refine ev_load1 hSt oInt ?_); refine ⟨rfl, _, _, _, _, _, rfl, (by repeat (first | exact List.mem_cons_self .. | refine List.mem_cons_of_mem _ ?_)), (by first | exact opc_0 _ _ _ _ _ | exact opc_1 _ _ _ _ _ | exact opc_2 _ _ _ _ _ | exact opc_3 _ _ _ _ _ | exact opc_4 _ _ _ _ _ | exact opc_7 _ _ _ _ _), ?_⟩; (simp only [Act.put, List.setIfInBounds_toArray, List.set_cons_succ, List.set_cons_zero])) | ((with_reducible refine ev_alloc hSt zX1 ?_); refine ⟨rfl, ?_⟩; intro gF wN hSt; (simp only [Act.put, List.setIfInBounds_toArray, List.set_cons_succ, List.set_cons_zero])) | ((with_reducible refine ev_alloc hSt zX5 ?_); refine ⟨rfl, ?_⟩; intro gR wN hSt; (simp only [Act.put, List.setIfInBounds_toArray, List.set_cons_succ, List.set_cons_zero])) | (go_at_call 13; refine (hG1 _ (PX.of (own := [(gO, .cells (opc K pr fd n y) 29 (0, 0))]) hSt).tab).mono ?_; rintro r w8 ⟨rfl, hb9⟩; replace hSt := hSt.ext hb9) | (go_at_call 19; refine (hG2 _ (PX.of (own := [(gF, .cells (fv x1) 27 (0, 0)), (gO, .cells (opc K pr fd n y) 29 (0, 0))]) hSt).rtab).mono ?_; rintro r w8 ⟨rfl, hb9⟩; replace hSt := hSt.ext hb9) | ((with_reducible refine ev_store hSt aX1 ?_); refine ⟨rfl, _, [], _, _, fv x1, rfl, rfl, rfl, rfl, rfl, fv_one _, ?_⟩; intro wN hSt; simp only [List.nil_append] at hSt; simp only [Act.put]) | ((with_reducible refine ev_store hSt aX5 ?_); refine ⟨rfl, _, [], _, _, pfv x1 b1, rfl, rfl, rfl, rfl, rfl, pfv_one _ _, ?_⟩; intro wN hSt; simp only [List.nil_append] at hSt; simp only [Act.put]))
            go_upto_region 22 with (first | ((with_reducible refine ev_load1 hSt oInt ?_); refine ⟨rfl, _, _, _, _, _, rfl, (by repeat (first | exact List.mem_cons_self .. | refine List.mem_cons_of_mem _ ?_)), (by first | exact opc_0 _ _ _ _ _ | exact opc_1 _ _ _ _ _ | exact opc_2 _ _ _ _ _ | exact opc_3 _ _ _ _ _ | exact opc_4 _ _ _ _ _ | exact opc_7 _ _ _ _ _), ?_⟩; (simp only [Act.put, List.setIfInBounds_toArray, List.set_cons_succ, List.set_cons_zero])))
            clear hG1 hG2 hC1 hC2
            cases b1
            case true =>
              replace hSt : St w ((gR, .cells #[.int .i64 x1.1, .int .i64 x1.2.1, .int .i64 x1.2.2.1, .int .i64 x1.2.2.2, .bool true] 43 (0, 0)) :: (gF, .cells (fv x1) 27 (0, 0)) :: (gO, .cells (opc K pr fd n y) 29 (0, 0)) :: tabL tb rb p f (qOf p f)) _ := hSt
              refine wp_region_seq (S := fun w' => St w ((gR, .cells #[.int .i64 x1.1, .int .i64 x1.2.1, .int .i64 x1.2.2.1, .int .i64 x1.2.2.2, .bool true] 43 (0, 0)) :: (gF, .cells (fv x1) 27 (0, 0)) :: (gO, .cells (opc K pr fd n y) 29 (0, 0)) :: tabL tb rb p f (qOf p f)) w') mixed28 (by kernel_rfl) (by kernel_rfl) hSt.drew ?_
              clear hSt
              iterate 11 (refine seq_take (v := ?_) rfl (of_decide_eq_true rfl) (fun w9 hS => ?_) ?_; rotate_left; (focus (have hSt := hS; go_wp2_with (first | ((with_reducible refine ev_load hSt aX1 ?_); refine ⟨rfl, _, _, _, rfl, (by repeat (first | exact List.mem_cons_self .. | refine List.mem_cons_of_mem _ ?_)), rfl, ?_⟩; (simp only [Act.put, List.setIfInBounds_toArray, List.set_cons_succ, List.set_cons_zero])) | ((with_reducible refine ev_load hSt aX5 ?_); refine ⟨rfl, _, _, _, rfl, (by repeat (first | exact List.mem_cons_self .. | refine List.mem_cons_of_mem _ ?_)), rfl, ?_⟩; (simp only [Act.put, List.setIfInBounds_toArray, List.set_cons_succ, List.set_cons_zero])) | (go_at_call 18; refine (plain_lit _ _ _).mono ?_; rintro r w8 ⟨rfl, hb9⟩)); refine VQ_mk ?_ rfl ?_; (focus rfl); (first | exact hS | exact hS.ext hb9))); (simp only [Act.put, List.setIfInBounds_toArray, List.set_cons_succ, List.set_cons_zero, Array.getD_eq_getD_getElem?, List.getElem?_toArray, List.getElem?_cons_succ, List.getElem?_cons_zero, Option.getD_some]))
              refine seq_nil ?_
              intro w9 hSt
              go_wp2
              first | refine Met.intro (hJ _ _ ?_) | refine hK' _ _ (Met.intro (hJ _ _ ?_))
              exact playRel_mk _ p f (hSt.tail.tail) hW (by kernel_rfl)
            case false =>
              replace hSt : St w ((gR, .cells #[.int .i64 x1.1, .int .i64 x1.2.1, .int .i64 x1.2.2.1, .int .i64 x1.2.2.2, .bool false] 43 (0, 0)) :: (gF, .cells (fv x1) 27 (0, 0)) :: (gO, .cells (opc K pr fd n y) 29 (0, 0)) :: tabL tb rb p f (qOf p f)) _ := hSt
              refine wp_region_seq (S := fun w' => St w ((gR, .cells #[.int .i64 x1.1, .int .i64 x1.2.1, .int .i64 x1.2.2.1, .int .i64 x1.2.2.2, .bool false] 43 (0, 0)) :: (gF, .cells (fv x1) 27 (0, 0)) :: (gO, .cells (opc K pr fd n y) 29 (0, 0)) :: tabL tb rb p f (qOf p f)) w') mixed28 (by kernel_rfl) (by kernel_rfl) hSt.drew ?_
              clear hSt
              iterate 11 (refine seq_take (v := ?_) rfl (of_decide_eq_true rfl) (fun w9 hS => ?_) ?_; rotate_left; (focus (have hSt := hS; go_wp2_with (first | ((with_reducible refine ev_load hSt aX1 ?_); refine ⟨rfl, _, _, _, rfl, (by repeat (first | exact List.mem_cons_self .. | refine List.mem_cons_of_mem _ ?_)), rfl, ?_⟩; (simp only [Act.put, List.setIfInBounds_toArray, List.set_cons_succ, List.set_cons_zero])) | ((with_reducible refine ev_load hSt aX5 ?_); refine ⟨rfl, _, _, _, rfl, (by repeat (first | exact List.mem_cons_self .. | refine List.mem_cons_of_mem _ ?_)), rfl, ?_⟩; (simp only [Act.put, List.setIfInBounds_toArray, List.set_cons_succ, List.set_cons_zero])) | (go_at_call 18; refine (plain_lit _ _ _).mono ?_; rintro r w8 ⟨rfl, hb9⟩)); refine VQ_mk ?_ rfl ?_; (focus rfl); (first | exact hS | exact hS.ext hb9))); (simp only [Act.put, List.setIfInBounds_toArray, List.set_cons_succ, List.set_cons_zero, Array.getD_eq_getD_getElem?, List.getElem?_toArray, List.getElem?_cons_succ, List.getElem?_cons_zero, Option.getD_some]))
              refine seq_nil ?_
              intro w9 hSt
              go_wp2
              first | refine Met.intro (hJ _ _ ?_) | refine hK' _ _ (Met.intro (hJ _ _ ?_))
              exact playRel_mk _ p f (hSt.tail.tail) hW (by kernel_rfl)
        by_cases h3 : K = 3
        · skip
          as_aux_lemma =>
            have hK0 : (K == 0) = false := beq_eq_false_iff_ne.2 h0
            have hK1 : (K == 1) = false := beq_eq_false_iff_ne.2 h1
            have hK3 : (K == 3) = true := beq_iff_eq.2 h3
            clear h0 h1 h3
            obtain ⟨x1, e0, p', hG1, hG2, hC1, hC2, hW'⟩ := play_close (w0 := w) (tb := tb) (rb := rb) pr fd p f hW
            generalize hb1 : (e0 == 0) = b1 at hG2 hC2
            go_upto_region 19 with (first | ((with_reducible refine ev_load1 hSt oInt ?_); refine ⟨rfl, _, _, _, _, _, rfl, (by repeat (first | exact List.mem_cons_self .. | refine List.mem_cons_of_mem _ ?_)), (by first | exact opc_0 _ _ _ _ _ | exact opc_1 _ _ _ _ _ | exact opc_2 _ _ _ _ _ | exact opc_3 _ _ _ _ _ | exact opc_4 _ _ _ _ _ | exact opc_7 _ _ _ _ _), ?_⟩; (simp only [Act.put, List.setIfInBounds_toArray, List.set_cons_succ, List.set_cons_zero])) | ((with_reducible refine ev_alloc hSt zX1 ?_); refine ⟨rfl, ?_⟩; intro gF wN hSt; (simp only [Act.put, List.setIfInBounds_toArray, List.set_cons_succ, List.set_cons_zero])) | ((with_reducible refine ev_alloc hSt zX5 ?_); refine ⟨rfl, ?_⟩; intro gR wN hSt; (simp only [Act.put, List.setIfInBounds_toArray, List.set_cons_succ, List.set_cons_zero])) | (go_at_call 13; refine (hG1 _ (PX.of (own := [(gO, .cells (opc K pr fd n y) 29 (0, 0))]) hSt).tab).mono ?_; rintro r w8 ⟨rfl, hb9⟩; replace hSt := hSt.ext hb9) | (go_at_call 19; refine (hG2 _ (PX.of (own := [(gF, .cells (fv x1) 27 (0, 0)), (gO, .cells (opc K pr fd n y) 29 (0, 0))]) hSt).rtab).mono ?_; rintro r w8 ⟨rfl, hb9⟩; replace hSt := hSt.ext hb9) | ((with_reducible refine ev_store hSt aX1 ?_); refine ⟨rfl, _, [], _, _, fv x1, rfl, rfl, rfl, rfl, rfl, fv_one _, ?_⟩; intro wN hSt; simp only [List.nil_append] at hSt; simp only [Act.put]) | ((with_reducible refine ev_store hSt aX5 ?_); refine ⟨rfl, _, [], _, _, pfv x1 b1, rfl, rfl, rfl, rfl, rfl, pfv_one _ _, ?_⟩; intro wN hSt; simp only [List.nil_append] at hSt; simp only [Act.put]))
            go_upto_region 22 with (first | ((with_reducible refine ev_load1 hSt oInt ?_); refine ⟨rfl, _, _, _, _, _, rfl, (by repeat (first | exact List.mem_cons_self .. | refine List.mem_cons_of_mem _ ?_)), (by first | exact opc_0 _ _ _ _ _ | exact opc_1 _ _ _ _ _ | exact opc_2 _ _ _ _ _ | exact opc_3 _ _ _ _ _ | exact opc_4 _ _ _ _ _ | exact opc_7 _ _ _ _ _), ?_⟩; (simp only [Act.put, List.setIfInBounds_toArray, List.set_cons_succ, List.set_cons_zero])) | (go_at_call 10; refine (hC1 _ _ (PX.of (own := [(gR, .cells (pfv x1 b1) 43 (0, 0)), (gF, .cells (fv x1) 27 (0, 0)), (gO, .cells (opc K pr fd n y) 29 (0, 0))]) hSt)).mono ?_; rintro r w8 ⟨rfl, hX⟩; clear hSt; have hSt := hX.st; clear hX) | (go_at_call 20; refine (hC2 _ _ (PX.of (own := [(gR, .cells (pfv x1 b1) 43 (0, 0)), (gF, .cells (fv x1) 27 (0, 0)), (gO, .cells (opc K pr fd n y) 29 (0, 0))]) hSt)).mono ?_; rintro r w8 ⟨rfl, hX⟩; clear hSt; have hSt := hX.st; clear hX) | ((with_reducible refine ev_store hSt aX1 ?_); refine ⟨rfl, _, [_], _, _, fv x1, rfl, rfl, rfl, rfl, rfl, fv_one _, ?_⟩; intro wN hSt; simp only [List.nil_append, List.cons_append] at hSt; simp only [Act.put]) | ((with_reducible refine ev_store hSt aX5 ?_); refine ⟨rfl, _, [], _, _, pfv x1 b1, rfl, rfl, rfl, rfl, rfl, pfv_one _ _, ?_⟩; intro wN hSt; simp only [List.nil_append] at hSt; simp only [Act.put]))
            clear hG1 hG2 hC1 hC2
            cases b1
            case true =>
              replace hSt : St w ((gR, .cells #[.int .i64 x1.1, .int .i64 x1.2.1, .int .i64 x1.2.2.1, .int .i64 x1.2.2.2, .bool true] 43 (0, 0)) :: (gF, .cells (fv x1) 27 (0, 0)) :: (gO, .cells (opc K pr fd n y) 29 (0, 0)) :: tabL tb rb p' f (qOf p' f)) _ := hSt
              refine wp_region_seq (S := fun w' => St w ((gR, .cells #[.int .i64 x1.1, .int .i64 x1.2.1, .int .i64 x1.2.2.1, .int .i64 x1.2.2.2, .bool true] 43 (0, 0)) :: (gF, .cells (fv x1) 27 (0, 0)) :: (gO, .cells (opc K pr fd n y) 29 (0, 0)) :: tabL tb rb p' f (qOf p' f)) w') mixed28 (by kernel_rfl) (by kernel_rfl) hSt.drew ?_
              clear hSt
              iterate 11 (refine seq_take (v := ?_) rfl (of_decide_eq_true rfl) (fun w9 hS => ?_) ?_; rotate_left; (focus (have hSt := hS; go_wp2_with (first | ((with_reducible refine ev_load hSt aX1 ?_); refine ⟨rfl, _, _, _, rfl, (by repeat (first | exact List.mem_cons_self .. | refine List.mem_cons_of_mem _ ?_)), rfl, ?_⟩; (simp only [Act.put, List.setIfInBounds_toArray, List.set_cons_succ, List.set_cons_zero])) | ((with_reducible refine ev_load hSt aX5 ?_); refine ⟨rfl, _, _, _, rfl, (by repeat (first | exact List.mem_cons_self .. | refine List.mem_cons_of_mem _ ?_)), rfl, ?_⟩; (simp only [Act.put, List.setIfInBounds_toArray, List.set_cons_succ, List.set_cons_zero])) | (go_at_call 18; refine (plain_lit _ _ _).mono ?_; rintro r w8 ⟨rfl, hb9⟩)); refine VQ_mk ?_ rfl ?_; (focus rfl); (first | exact hS | exact hS.ext hb9))); (simp only [Act.put, List.setIfInBounds_toArray, List.set_cons_succ, List.set_cons_zero, Array.getD_eq_getD_getElem?, List.getElem?_toArray, List.getElem?_cons_succ, List.getElem?_cons_zero, Option.getD_some]))
              refine seq_nil ?_
              intro w9 hSt
              go_wp2
              first | refine Met.intro (hJ _ _ ?_) | refine hK' _ _ (Met.intro (hJ _ _ ?_))
              exact playRel_mk _ p' f (hSt.tail.tail) hW' (by kernel_rfl)
            case false =>
              replace hSt : St w ((gR, .cells #[.int .i64 x1.1, .int .i64 x1.2.1, .int .i64 x1.2.2.1, .int .i64 x1.2.2.2, .bool false] 43 (0, 0)) :: (gF, .cells (fv x1) 27 (0, 0)) :: (gO, .cells (opc K pr fd n y) 29 (0, 0)) :: tabL tb rb p' f (qOf p' f)) _ := hSt
              refine wp_region_seq (S := fun w' => St w ((gR, .cells #[.int .i64 x1.1, .int .i64 x1.2.1, .int .i64 x1.2.2.1, .int .i64 x1.2.2.2, .bool false] 43 (0, 0)) :: (gF, .cells (fv x1) 27 (0, 0)) :: (gO, .cells (opc K pr fd n y) 29 (0, 0)) :: tabL tb rb p' f (qOf p' f)) w') mixed28 (by kernel_rfl) (by kernel_rfl) hSt.drew ?_
              clear hSt
              iterate 11 (refine seq_take (v := ?_) rfl (of_decide_eq_true rfl) (fun w9 hS => ?_) ?_; rotate_left; (focus (have hSt := hS; go_wp2_with (first | ((with_reducible refine ev_load hSt aX1 ?_); refine ⟨rfl, _, _, _, rfl, (by repeat (first | exact List.mem_cons_self .. | refine List.mem_cons_of_mem _ ?_)), rfl, ?_⟩; (simp only [Act.put, List.setIfInBounds_toArray, List.set_cons_succ, List.set_cons_zero])) | ((with_reducible refine ev_load hSt aX5 ?_); refine ⟨rfl, _, _, _, rfl, (by repeat (first | exact List.mem_cons_self .. | refine List.mem_cons_of_mem _ ?_)), rfl, ?_⟩; (simp only [Act.put, List.setIfInBounds_toArray, List.set_cons_succ, List.set_cons_zero])) | (go_at_call 18; refine (plain_lit _ _ _).mono ?_; rintro r w8 ⟨rfl, hb9⟩)); refine VQ_mk ?_ rfl ?_; (focus rfl); (first | exact hS | exact hS.ext hb9))); (simp only [Act.put, List.setIfInBounds_toArray, List.set_cons_succ, List.set_cons_zero, Array.getD_eq_getD_getElem?, List.getElem?_toArray, List.getElem?_cons_succ, List.getElem?_cons_zero, Option.getD_some]))
              refine seq_nil ?_
              intro w9 hSt
              go_wp2
              first | refine Met.intro (hJ _ _ ?_) | refine hK' _ _ (Met.intro (hJ _ _ ?_))
              exact playRel_mk _ p' f (hSt.tail.tail) hW' (by kernel_rfl)
        by_cases h2 : K = 2
        · skip
          as_aux_lemma =>
            have hK0 : (K == 0) = false := beq_eq_false_iff_ne.2 h0
            have hK1 : (K == 1) = false := beq_eq_false_iff_ne.2 h1
            have hK3 : (K == 3) = false := beq_eq_false_iff_ne.2 h3
            have hK2 : (K == 2) = true := beq_iff_eq.2 h2
            clear h0 h1 h2 h3
            obtain ⟨e0, f', hM1, hM2, hW'⟩ := play_move (w0 := w) (tb := tb) (rb := rb) pr fd n p f hW
            go_upto_region 25 with fail
            replace hSt := hSt.drew
            refine start_ (n := 17) (S := Held [(gO, .cells (opc K pr fd n y) 29 (0, 0))]) (ds := []) #[false, false, false, false, false, false, false, false, false, false, false, false, false, false, false, false, false] mixed28 rfl rfl (held_cons (hSt.blk (by repeat (first | exact List.mem_cons_self .. | refine List.mem_cons_of_mem _ ?_))) held_nil) (fun hH => ?_)
            refine pure_ (i := 0) (N := some 123) (v := .pointer (some ⟨tb, 0, none⟩)) #[true, false, false, false, false, false, false, false, false, false, false, false, false, false, false, false, false] rfl rfl (by kernel_rfl) (fun _ _ _ h => h) (.inl ⟨rfl, fun w' => ?_⟩) rfl ?_
            · go_simp
              try with_reducible rfl
            (simp only [Act.put, List.setIfInBounds_toArray, List.set_cons_succ, List.set_cons_zero])
            refine pure_ (i := 1) (N := some 124) (v := .pointer (some ⟨gO, 1, none⟩)) #[true, true, false, false, false, false, false, false, false, false, false, false, false, false, false, false, false] rfl rfl (by kernel_rfl) (fun _ _ _ h => h) (.inl ⟨rfl, fun w' => ?_⟩) rfl ?_
            · go_simp
              try with_reducible rfl
            (simp only [Act.put, List.setIfInBounds_toArray, List.set_cons_succ, List.set_cons_zero])
            refine ld1_take (i := 2) #[true, true, true, false, false, false, false, false, false, false, false, false, false, false, false, false, false] rfl (by kernel_rfl) (fun _ _ _ _ h => h) oInt rfl hH (List.mem_cons_self ..) (opc_1 _ _ _ _ _) ?_
            (simp only [Act.put, List.setIfInBounds_toArray, List.set_cons_succ, List.set_cons_zero])
            refine pure_ (i := 3) (N := some 126) (v := .pointer (some ⟨gO, 2, none⟩)) #[true, true, true, true, false, false, false, false, false, false, false, false, false, false, false, false, false] rfl rfl (by kernel_rfl) (fun _ _ _ h => h) (.inl ⟨rfl, fun w' => ?_⟩) rfl ?_
            · go_simp
              try with_reducible rfl
            (simp only [Act.put, List.setIfInBounds_toArray, List.set_cons_succ, List.set_cons_zero])
            refine ld1_take (i := 4) #[true, true, true, true, true, false, false, false, false, false, false, false, false, false, false, false, false] rfl (by kernel_rfl) (fun _ _ _ _ h => h) oInt rfl hH (List.mem_cons_self ..) (opc_2 _ _ _ _ _) ?_
            (simp only [Act.put, List.setIfInBounds_toArray, List.set_cons_succ, List.set_cons_zero])
            refine pure_ (i := 5) (N := some 128) (v := .pointer (some ⟨gO, 3, none⟩)) #[true, true, true, true, true, true, false, false, false, false, false, false, false, false, false, false, false] rfl rfl (by kernel_rfl) (fun _ _ _ h => h) (.inl ⟨rfl, fun w' => ?_⟩) rfl ?_
            · go_simp
              try with_reducible rfl
            (simp only [Act.put, List.setIfInBounds_toArray, List.set_cons_succ, List.set_cons_zero])
            refine ld1_take (i := 6) #[true, true, true, true, true, true, true, false, false, false, false, false, false, false, false, false, false] rfl (by kernel_rfl) (fun _ _ _ _ h => h) oInt rfl hH (List.mem_cons_self ..) (opc_3 _ _ _ _ _) ?_
            (simp only [Act.put, List.setIfInBounds_toArray, List.set_cons_succ, List.set_cons_zero])
            refine pure_ (i := 8) (N := some 131) (v := .pointer (some ⟨rb, 0, none⟩)) #[true, true, true, true, true, true, true, false, true, false, false, false, false, false, false, false, false] rfl rfl (by kernel_rfl) (fun _ _ _ h => h) (.inl ⟨rfl, fun w' => ?_⟩) rfl ?_
            · go_simp
              try with_reducible rfl
            (simp only [Act.put, List.setIfInBounds_toArray, List.set_cons_succ, List.set_cons_zero])
            refine pure_ (i := 9) (N := some 132) (v := .pointer (some ⟨gO, 1, none⟩)) #[true, true, true, true, true, true, true, false, true, true, false, false, false, false, false, false, false] rfl rfl (by kernel_rfl) (fun _ _ _ h => h) (.inl ⟨rfl, fun w' => ?_⟩) rfl ?_
            · go_simp
              try with_reducible rfl
            (simp only [Act.put, List.setIfInBounds_toArray, List.set_cons_succ, List.set_cons_zero])
            refine ld1_take (i := 10) #[true, true, true, true, true, true, true, false, true, true, true, false, false, false, false, false, false] rfl (by kernel_rfl) (fun _ _ _ _ h => h) oInt rfl hH (List.mem_cons_self ..) (opc_1 _ _ _ _ _) ?_
            (simp only [Act.put, List.setIfInBounds_toArray, List.set_cons_succ, List.set_cons_zero])
            refine pure_ (i := 11) (N := some 134) (v := .pointer (some ⟨gO, 2, none⟩)) #[true, true, true, true, true, true, true, false, true, true, true, true, false, false, false, false, false] rfl rfl (by kernel_rfl) (fun _ _ _ h => h) (.inl ⟨rfl, fun w' => ?_⟩) rfl ?_
            · go_simp
              try with_reducible rfl
            (simp only [Act.put, List.setIfInBounds_toArray, List.set_cons_succ, List.set_cons_zero])
            refine ld1_take (i := 12) #[true, true, true, true, true, true, true, false, true, true, true, true, true, false, false, false, false] rfl (by kernel_rfl) (fun _ _ _ _ h => h) oInt rfl hH (List.mem_cons_self ..) (opc_2 _ _ _ _ _) ?_
            (simp only [Act.put, List.setIfInBounds_toArray, List.set_cons_succ, List.set_cons_zero])
            refine pure_ (i := 13) (N := some 136) (v := .pointer (some ⟨gO, 3, none⟩)) #[true, true, true, true, true, true, true, false, true, true, true, true, true, true, false, false, false] rfl rfl (by kernel_rfl) (fun _ _ _ h => h) (.inl ⟨rfl, fun w' => ?_⟩) rfl ?_
            · go_simp
              try with_reducible rfl
            (simp only [Act.put, List.setIfInBounds_toArray, List.set_cons_succ, List.set_cons_zero])
            refine ld1_take (i := 14) #[true, true, true, true, true, true, true, false, true, true, true, true, true, true, true, false, false] rfl (by kernel_rfl) (fun _ _ _ _ h => h) oInt rfl hH (List.mem_cons_self ..) (opc_3 _ _ _ _ _) ?_
            (simp only [Act.put, List.setIfInBounds_toArray, List.set_cons_succ, List.set_cons_zero])
            refine one_ (i := 7) (N := some 130) #[true, true, true, true, true, true, true, true, true, true, true, true, true, true, true, false, false] rfl rfl (by kernel_rfl) (by simp) (fun Kx hKx => ?_)
            refine goes_ (N := some 130) Try.func21 (by kernel_rfl) rfl #[.pointer (some ⟨tb, 0, none⟩), .int .i64 pr, .int .i64 fd, .int .i64 n] rfl rfl rfl (by simp [Act.eval]) ?_
            refine (hM1 _ _ (PX.of (own := [(gO, .cells (opc K pr fd n y) 29 (0, 0))]) hSt)).mono ?_
            rintro r w9 ⟨rfl, hX2⟩
            clear hSt
            have hSt := hX2.st
            refine ⟨_, rfl, hKx.out _ _ (held_cons (hSt.blk (by repeat (first | exact List.mem_cons_self .. | refine List.mem_cons_of_mem _ ?_))) held_nil) fun hH => ?_⟩
            clear hKx
            (simp only [Act.put, List.setIfInBounds_toArray, List.set_cons_succ, List.set_cons_zero])
            refine one_ (i := 15) (N := some 138) #[true, true, true, true, true, true, true, true, true, true, true, true, true, true, true, true, false] rfl rfl (by kernel_rfl) (by simp) (fun Kx hKx => ?_)
            refine goes_ (N := some 138) Try.func22 (by kernel_rfl) rfl #[.pointer (some ⟨rb, 0, none⟩), .int .i64 pr, .int .i64 fd, .int .i64 n] rfl rfl rfl (by simp [Act.eval]) ?_
            refine (hM2 _ _ (PX.of (own := [(gO, .cells (opc K pr fd n y) 29 (0, 0))]) hSt)).mono ?_
            rintro r w9 ⟨rfl, hX3⟩
            clear hSt
            have hSt := hX3.st
            refine ⟨_, rfl, hKx.out _ _ (held_cons (hSt.blk (by repeat (first | exact List.mem_cons_self .. | refine List.mem_cons_of_mem _ ?_))) held_nil) fun hH => ?_⟩
            clear hKx
            (simp only [Act.put, List.setIfInBounds_toArray, List.set_cons_succ, List.set_cons_zero])
            refine pure_ (i := 16) (N := some 139) (v := .bool (e0 != e0)) #[true, true, true, true, true, true, true, true, true, true, true, true, true, true, true, true, true] rfl rfl (by kernel_rfl) (fun _ _ _ h => h) (.inl ⟨rfl, fun w' => ?_⟩) rfl ?_
            · go_simp
              try with_reducible rfl
            (simp only [Act.put, List.setIfInBounds_toArray, List.set_cons_succ, List.set_cons_zero])
            refine done_ (by kernel_rfl) ?_
            clear hM1 hM2 hX2 hX3
            go_wp2
            first | refine Met.intro (hJ _ _ ?_) | refine hK' _ _ (Met.intro (hJ _ _ ?_))
            exact playRel_mk _ p f' hSt hW' (by kernel_rfl)
        by_cases h4 : K = 4
        · skip
          as_aux_lemma =>
            have hK0 : (K == 0) = false := beq_eq_false_iff_ne.2 h0
            have hK1 : (K == 1) = false := beq_eq_false_iff_ne.2 h1
            have hK3 : (K == 3) = false := beq_eq_false_iff_ne.2 h3
            have hK2 : (K == 2) = false := beq_eq_false_iff_ne.2 h2
            have hK4 : (K == 4) = true := beq_iff_eq.2 h4
            clear h0 h1 h2 h3 h4
            obtain ⟨i0, e0, hS1, hS2⟩ := play_spare (tb := tb) (rb := rb) pr p f
            go_wp2_with (first | ((with_reducible refine ev_load1 hSt oInt ?_); refine ⟨rfl, _, _, _, _, _, rfl, (by repeat (first | exact List.mem_cons_self .. | refine List.mem_cons_of_mem _ ?_)), (by first | exact opc_0 _ _ _ _ _ | exact opc_1 _ _ _ _ _ | exact opc_2 _ _ _ _ _ | exact opc_3 _ _ _ _ _ | exact opc_4 _ _ _ _ _ | exact opc_7 _ _ _ _ _), ?_⟩; (simp only [Act.put, List.setIfInBounds_toArray, List.set_cons_succ, List.set_cons_zero])) | (go_at_call 11; refine (hS1 _ (PX.of (own := [(gO, .cells (opc K pr fd n y) 29 (0, 0))]) hSt).tab).mono ?_; rintro r w8 ⟨rfl, hb9⟩; replace hSt := hSt.ext hb9) | (go_at_call 23; refine (hS2 _ (PX.of (own := [(gO, .cells (opc K pr fd n y) 29 (0, 0))]) hSt).rtab).mono ?_; rintro r w8 ⟨rfl, rfl⟩))
            first | refine Met.intro (hJ _ _ ?_) | refine hK' _ _ (Met.intro (hJ _ _ ?_))
            exact playRel_mk _ p f hSt hW (by kernel_rfl)
        · skip
          as_aux_lemma =>
            have hK0 : (K == 0) = false := beq_eq_false_iff_ne.2 h0
            have hK1 : (K == 1) = false := beq_eq_false_iff_ne.2 h1
            have hK3 : (K == 3) = false := beq_eq_false_iff_ne.2 h3
            have hK2 : (K == 2) = false := beq_eq_false_iff_ne.2 h2
            have hK4 : (K == 4) = false := beq_eq_false_iff_ne.2 h4
            clear h0 h1 h2 h3 h4
            go_wp2
            first | refine Met.intro (hJ _ _ ?_) | refine hK' _ _ (Met.intro (hJ _ _ ?_))
            exact playRel_mk _ p f hSt hW (by kernel_rfl)
      case rest =>
        intro a' wc hcut
        unfold playRel at hcut
        obtain ⟨u, ⟨p', f', hSt', hW'⟩, rfl⟩ := hcut
        clear hSt hat hW
        have hSt := hSt'
        clear hSt'
        have hO0 : ∀ w, Tab w tb p' f' → Calls Try.prog 24 #[.pointer (some ⟨tb, 0, none⟩), .int .i64 y.1] w fun e w' => e = .returned (.int .i64 (cntG p' (fun i => (f' i).1) y.1 32)) ∧ Below w.heap.size w w' := fun w hT => opens_is tb p' f' y.1 w hT
        have hC0 := fun w hT => rcount_0 rb y.1 p' f' w hT
        have hC1 := fun w hT => rcount_1 rb y.2.2.2 p' f' w hT
        have hPn := fun w hT => pins_is tb p' f' w hT hW'
        obtain ⟨nv, hNN, eW⟩ : ∃ nv : Int, (∀ w, Calls Try.prog 27 #[.int .i64 y.2.2.2] w fun e w' => e = .returned (.int .i64 nv) ∧ w' = w) ∧ wrap64 ((cntG p' (fun i => (f' i).2.2.2) y.2.2.2 32 : Int) * nv) = cD p' f' 32 y.2.2.2 := by
          refine ⟨_, fun w => notNone_is y.2.2.2 w, ?_⟩
          have hle := cntG_le p' (fun i => (f' i).2.2.2) y.2.2.2 32
          unfold cD
          by_cases hd : y.2.2.2 = -1
          · rw [if_pos hd, if_pos hd, Int.mul_zero]; unfold wrap64; decide
          · rw [if_neg hd, if_neg hd, Int.mul_one]; unfold wrap64; omega
        generalize (cntG p' (fun i => (f' i).1) y.1 32 : Int) = M0 at hO0 hC0
        generalize (cntG p' (fun i => (f' i).2.2.2) y.2.2.2 32 : Int) = M1 at hC1 eW
        generalize hcF : cD p' f' 32 = cF at hPn eW
        generalize eCD : cF y.2.2.2 = cv at eW
        have HK := Lib.hid hW'
        clear hW' hcF
        go_upto_region 32 with fail
        refine wp_region_rel (S := fun w' => St w ((gO, .cells (opc K pr fd n y) 29 (0, 0)) :: tabL tb rb p' f' (qOf p' f')) w') [164, 165, 166, 167, 168, 169, 170, 171, 172, 173, 174, 175, 176, 177, 178, 179, 180, 181, 182, 183, 184, 185, 186, 187, 188, 189, 190, 191, 192, 193] mixed28 (by kernel_rfl) (by kernel_rfl) (by decide) (by kernel_rfl) (fun _ _ h k => h.ext k) hSt.drew ?_
        clear hSt
        iterate 13 (refine rel_eq (v := ?_) ?_ ?_; rotate_left; (focus ((simp only [Lay, List.nil_append, List.cons_append, List.setIfInBounds_toArray, List.set_cons_succ, List.set_cons_zero]; intros; rename_i w9 hS hF; simp only [FactsE, List.nil_append, List.cons_append, List.toList_toArray, List.getElem?_cons_succ, List.getElem?_cons_zero] at hF; try (repeat (first | obtain ⟨⟨gm, om, nm, rfl, hgm, hCm⟩, hF⟩ := hF | obtain ⟨rfl, hF⟩ := hF | obtain ⟨-, hF⟩ := hF))); refine step_take rfl (of_decide_eq_true rfl) ?_; have hSt := hS; go_wp2_with (first | ((with_reducible refine ev_load1 hSt oInt ?_); refine ⟨rfl, _, _, _, _, _, rfl, (by repeat (first | exact List.mem_cons_self .. | refine List.mem_cons_of_mem _ ?_)), (by first | exact opc_0 _ _ _ _ _ | exact opc_1 _ _ _ _ _ | exact opc_2 _ _ _ _ _ | exact opc_3 _ _ _ _ _ | exact opc_4 _ _ _ _ _ | exact opc_7 _ _ _ _ _), ?_⟩; (simp only [Act.put, List.setIfInBounds_toArray, List.set_cons_succ, List.set_cons_zero])) | ((with_reducible refine ev_cntLook ?_); refine ⟨rfl, _, _, _, _, _, rfl, hgm, hCm, rfl, hy, ?_⟩; simp only [eCD]; (simp only [Act.put, List.setIfInBounds_toArray, List.set_cons_succ, List.set_cons_zero])) | (go_at_call 24; refine (hO0 _ (PX.of (own := [(gO, .cells (opc K pr fd n y) 29 (0, 0))]) hSt).tab).mono ?_; rintro r w8 ⟨rfl, hb9⟩) | (go_at_call 25; (first | (with_reducible refine (hC0 _ (PX.of (own := [(gO, .cells (opc K pr fd n y) 29 (0, 0))]) hSt).rtab).mono ?_) | (with_reducible refine (hC1 _ (PX.of (own := [(gO, .cells (opc K pr fd n y) 29 (0, 0))]) hSt).rtab).mono ?_)); rintro r w8 ⟨rfl, hb9⟩) | (go_at_call 27; refine (hNN _).mono ?_; rintro r w8 ⟨rfl, rfl⟩)); refine RQ_mk rfl ?_ ?_; (focus first | exact hb9 | exact Below.refl _ _); (focus (first | (simp only [Array.getD_eq_getD_getElem?, List.getElem?_toArray, List.getElem?_cons_succ, List.getElem?_cons_zero, Option.getD_some]; done) | (simp only [Array.getD_eq_getD_getElem?, List.getElem?_toArray, List.getElem?_cons_succ, List.getElem?_cons_zero, Option.getD_some]; rfl) | rfl)))))
        (refine rel_any (fun u w => ∃ g o n, u = .map (some g) ∧ w.heap[g]? = some o ∧ CntO o n cF) (fun u w w' h hb => by obtain ⟨g, o, n, h1, h2, h3⟩ := h; exact ⟨g, o, n, h1, blk_of hb h2, h3⟩) ?_ ?_; (focus ((simp only [Lay, List.nil_append, List.cons_append, List.setIfInBounds_toArray, List.set_cons_succ, List.set_cons_zero]; intros; rename_i w9 hS hF; simp only [FactsE, List.nil_append, List.cons_append, List.toList_toArray, List.getElem?_cons_succ, List.getElem?_cons_zero] at hF; try (repeat (first | obtain ⟨⟨gm, om, nm, rfl, hgm, hCm⟩, hF⟩ := hF | obtain ⟨rfl, hF⟩ := hF | obtain ⟨-, hF⟩ := hF))); refine step_take rfl (of_decide_eq_true rfl) ?_; have hSt := hS; go_wp2_with (go_at_call 26; refine (hPn _ (PX.of (own := [(gO, .cells (opc K pr fd n y) 29 (0, 0))]) hSt).tab).mono ?_; rintro r w8 ⟨gP, oP, nP, rfl, hgP, hCP, hb9⟩); refine RQ_mk rfl ?_ ?_; (focus exact hb9); exact ⟨gP, oP, nP, rfl, hgP, hCP⟩)))
        iterate 16 (refine rel_eq (v := ?_) ?_ ?_; rotate_left; (focus ((simp only [Lay, List.nil_append, List.cons_append, List.setIfInBounds_toArray, List.set_cons_succ, List.set_cons_zero]; intros; rename_i w9 hS hF; simp only [FactsE, List.nil_append, List.cons_append, List.toList_toArray, List.getElem?_cons_succ, List.getElem?_cons_zero] at hF; try (repeat (first | obtain ⟨⟨gm, om, nm, rfl, hgm, hCm⟩, hF⟩ := hF | obtain ⟨rfl, hF⟩ := hF | obtain ⟨-, hF⟩ := hF))); refine step_take rfl (of_decide_eq_true rfl) ?_; have hSt := hS; go_wp2_with (first | ((with_reducible refine ev_load1 hSt oInt ?_); refine ⟨rfl, _, _, _, _, _, rfl, (by repeat (first | exact List.mem_cons_self .. | refine List.mem_cons_of_mem _ ?_)), (by first | exact opc_0 _ _ _ _ _ | exact opc_1 _ _ _ _ _ | exact opc_2 _ _ _ _ _ | exact opc_3 _ _ _ _ _ | exact opc_4 _ _ _ _ _ | exact opc_7 _ _ _ _ _), ?_⟩; (simp only [Act.put, List.setIfInBounds_toArray, List.set_cons_succ, List.set_cons_zero])) | ((with_reducible refine ev_cntLook ?_); refine ⟨rfl, _, _, _, _, _, rfl, hgm, hCm, rfl, hy, ?_⟩; simp only [eCD]; (simp only [Act.put, List.setIfInBounds_toArray, List.set_cons_succ, List.set_cons_zero])) | (go_at_call 24; refine (hO0 _ (PX.of (own := [(gO, .cells (opc K pr fd n y) 29 (0, 0))]) hSt).tab).mono ?_; rintro r w8 ⟨rfl, hb9⟩) | (go_at_call 25; (first | (with_reducible refine (hC0 _ (PX.of (own := [(gO, .cells (opc K pr fd n y) 29 (0, 0))]) hSt).rtab).mono ?_) | (with_reducible refine (hC1 _ (PX.of (own := [(gO, .cells (opc K pr fd n y) 29 (0, 0))]) hSt).rtab).mono ?_)); rintro r w8 ⟨rfl, hb9⟩) | (go_at_call 27; refine (hNN _).mono ?_; rintro r w8 ⟨rfl, rfl⟩)); refine RQ_mk rfl ?_ ?_; (focus first | exact hb9 | exact Below.refl _ _); (focus (first | (simp only [Array.getD_eq_getD_getElem?, List.getElem?_toArray, List.getElem?_cons_succ, List.getElem?_cons_zero, Option.getD_some]; done) | (simp only [Array.getD_eq_getD_getElem?, List.getElem?_toArray, List.getElem?_cons_succ, List.getElem?_cons_zero, Option.getD_some]; rfl) | rfl)))))
        refine rel_end ?_
        (simp only [Lay, List.nil_append, List.cons_append, List.setIfInBounds_toArray, List.set_cons_succ, List.set_cons_zero]; intros; rename_i w9 hS hF; simp only [FactsA, List.nil_append, List.cons_append] at hF; try (repeat (first | obtain ⟨⟨gm, om, nm, rfl, hgm, hCm⟩, hF⟩ := hF | obtain ⟨rfl, hF⟩ := hF | obtain ⟨-, hF⟩ := hF)))
        have hSt := hS
        clear hS hO0 hC0 hC1 hPn hNN eW eCD hCm hgm
        go_wp2
        go_loopw [19] (fun i wr => ∃ (r : Nat) (P : Int), i = .int .i64 P ∧ P = (r : Int) + 1 ∧ r ≤ 4 ∧ St w ((gO, .cells (opc K pr fd n y) 29 (0, 0)) :: tabL tb rb p' f' (qOf p' f')) wr) (fun i _ => 6 - (intOf i).toNat)
        case atStart => exact ⟨0, 1, rfl, by decide, by omega, hSt⟩
        case round =>
          clear hSt
          obtain ⟨r, P, rfl, hP, hr, hSt⟩ := hrel
          by_cases h4 : r = 4
          · have e2 : decide (P ≤ 4) = false := decide_eq_false (by omega)
            as_aux_lemma =>
              go_wp2
              exact ⟨⟨k + 1, p', f', by omega, by simp, PX.of (own := []) hSt.tail, HK.out⟩, by simp only [intOf]; omega⟩
          · have hr4 : r < 4 := by omega
            obtain ⟨hr', hw, e1, e2⟩ := proc_facts hr4 hP
            have hA : ∀ w, Tab w tb p' f' → Calls Try.prog 16 #[.pointer (some ⟨tb, 0, none⟩), .int .i64 P] w fun e w' => ∃ a cap, e = .returned (.slice a (openL p' (8 * r) 8).length cap) ∧ IntSl w' a (openL p' (8 * r) 8) ∧ Below w.heap.size w w' := fun w hT => by
              have := all_list tb (r + 1) (by omega) (by omega) p' f' w hT
              rw [cast_pr, ← hP, Nat.add_sub_cancel] at this
              exact this
            have hP1 : wrap64 (P + 1) = P + 1 := by unfold wrap64; omega
            have HP := Lib.hid hP
            have HA := Lib.hid hA
            clear hP hA h4
            go_wp2_with (go_at_call 16; refine (HA.out _ (PX.of (own := [(gO, .cells (opc K pr fd n y) 29 (0, 0))]) hSt).tab).mono ?_; rintro r9 w8 ⟨sa, sc, rfl, hsl, hb9⟩; replace hSt := hSt.ext hb9)
            have hRT := (PX.of (own := [(gO, .cells (opc K pr fd n y) 29 (0, 0))]) hSt).rtab
            generalize hLL : (openL p' (8 * r) 8).length = LL
            go_loopw [21, 22] (fun s i wq => ∃ c : Nat, c ≤ 8 ∧ i = .int .i64 c ∧ s = .int .i64 (openL p' (8 * r) c).length ∧ wq = w8) (fun _ i _ => 8 - (intOf i).toNat)
            case atStart => exact ⟨0, by omega, rfl, rfl, rfl⟩
            case round =>
              obtain ⟨c, hc, rfl, rfl, rfl⟩ := hrel
              by_cases h8 : c = 8
              · subst h8
                rw [hLL]
                as_aux_lemma =>
                  go_wp2
                  exact ⟨⟨r + 1, P + 1, by rw [hP1], by have := HP.out; omega, by omega, hSt⟩, by rw [hP1]; have := HP.out; simp only [intOf]; omega⟩
              · have hc8 : c < 8 := by omega
                have hc8' : (c : Int) < 8 := by omega
                have hcell := hRT.cell' r c 4 hr4 hc8 (by decide)
                have hos : openL p' (8 * r) (c + 1) = openL p' (8 * r) c ++ (if (p' (8 * r + c)).isSome then [(c : Int)] else []) := rfl
                cases hp : p' (8 * r + c) with
                | none =>
                  rw [show qOf p' f' (8 * r + c) = none from by unfold qOf; rw [hp]; rfl] at hcell
                  have hcell' : _ = some (Value.bool false) := hcell
                  rw [hp, if_neg (by decide), List.append_nil] at hos
                  have HO := Lib.hid hos
                  clear hcell hos
                  as_aux_lemma =>
                    go_wp2
                    exact ⟨⟨c + 1, by omega, by simp, by rw [HO.out], by first | trivial | rfl⟩, by simp only [intOf]; omega⟩
                | some g =>
                  rw [show qOf p' f' (8 * r + c) = some (f' (8 * r + c)) from by unfold qOf; rw [hp]; rfl] at hcell
                  have hcell' : _ = some (Value.bool true) := hcell
                  rw [hp, if_pos (show (some g).isSome = true from rfl)] at hos
                  have hol := congrArg List.length hos
                  rw [List.length_append, List.length_singleton] at hol
                  have hat := openL_at p' (8 * r) c (by rw [hp]; rfl) 8 hc8
                  have hkle := openL_le p' (8 * r) c
                  generalize (openL p' (8 * r) c).length = kk at hat hol hkle ⊢
                  obtain ⟨hkl, hke⟩ := List.getElem?_eq_some_iff.1 hat
                  obtain ⟨x2, hx2, hcl, -⟩ := hsl kk hkl
                  rw [hke] at hcl
                  rw [hLL] at hkl
                  subst hx2
                  have hkI : (kk : Int) < (LL : Int) := by omega
                  have d1 : decide ((LL : Int) ≤ (kk : Int)) = false := decide_eq_false (by omega)
                  have d2 : decide (LL ≤ kk) = false := decide_eq_false (by omega)
                  have hk1 : wrap64 ((kk : Int) + 1) = ((kk + 1 : Nat) : Int) := by unfold wrap64; omega
                  have HO := Lib.hid (And.intro hol hk1)
                  clear hcell hos hol hat hke hkle hk1 hLL
                  as_aux_lemma =>
                    go_wp2
                    exact ⟨⟨c + 1, by omega, by simp, by rw [HO.out.1, HO.out.2], by first | trivial | rfl⟩, by simp only [intOf]; omega⟩
end Go.Proofs.Ytfacegnnmgmjmaa
