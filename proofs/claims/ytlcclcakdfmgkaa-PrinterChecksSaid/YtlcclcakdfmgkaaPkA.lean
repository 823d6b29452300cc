/- The walks of the printer's classes of kinds, of its function values, and of the shapes' makers. Conditions: none. -/
import Derived.Test.YtlcclcakdfmgkaaPkQ
import Derived.Test.YtlcclcakdfmgkaaPop
import Derived.Test.YtlcclcakdfmgkaaExt
import Derived.Test.YtlcclcakdfmgkaaZip
import Derived.Test.YtlcclcakdfmgkaaMake
import Derived.Test.YtlcclcakdfmgkaaRows
namespace Go.Proofs.Ytlcclcakdfmgkaa.pk
open Go.RowKit Go.Eng Go.Pk
set_option linter.unusedVariables false
set_option linter.unusedSimpArgs false
set_option maxRecDepth 100000

theorem isDecl_calls (k : Int) (w : World) : Calls Try.prog 69 #[.int .i64 k] w fun e w' => e = .returned (.bool (inL declL k)) ∧ Ext w w' := by
  refine enter Try.func69 rfl Try.ntmps69 rfl (Cls.start w) ?_
  (simp only [argEnv, Nat.zero_add, Nat.reduceAdd])
  apply W.seq
  apply W.reg
  apply oas; rfl; rfl
  apply OL.nil
  with_reducible apply At.next
  apply W.seq
  apply W.reg
  apply omv; rfl; rfl
  apply obn; rfl; rfl; rfl; apply Bin.geq
  apply omv; rfl; rfl
  apply OL.op; exact Guard.yes rfl rfl; rfl; rfl; apply Pev.move; rfl; exact yes
  apply OL.op; exact Guard.yes rfl rfl; rfl; rfl; apply Pev.bin; rfl; exact fun h => h; rfl; exact yes; intro hcond; apply Bin.leq
  apply OL.op; exact Guard.none; rfl; rfl; apply Pev.pick_and; rfl; exact yes; rfl; exact fun h => h
  apply omv; rfl; rfl
  apply OL.op; exact Guard.yes rfl rfl; rfl; rfl; apply Pev.move; rfl; exact yes
  apply OL.op; exact Guard.yes rfl rfl; rfl; rfl; apply Pev.bin; rfl; exact fun h => h; rfl; exact yes; intro hcond; apply Bin.neq
  apply OL.op; exact Guard.none; rfl; rfl; apply Pev.pick_and; rfl; exact yes; rfl; exact fun h => h
  apply omv; rfl; rfl
  apply OL.op; exact Guard.yes rfl rfl; rfl; rfl; apply Pev.move; rfl; exact yes
  apply OL.op; exact Guard.yes rfl rfl; rfl; rfl; apply Pev.bin; rfl; exact fun h => h; rfl; exact yes; intro hcond; apply Bin.neq
  apply OL.op; exact Guard.none; rfl; rfl; apply Pev.pick_and; rfl; exact yes; rfl; exact fun h => h
  apply omv; rfl; rfl
  apply OL.op; exact Guard.yes rfl rfl; rfl; rfl; apply Pev.move; rfl; exact yes
  apply OL.op; exact Guard.yes rfl rfl; rfl; rfl; apply Pev.bin; rfl; exact fun h => h; rfl; exact yes; intro hcond; apply Bin.neq
  apply OL.op; exact Guard.none; rfl; rfl; apply Pev.pick_and; rfl; exact yes; rfl; exact fun h => h
  apply omv; rfl; rfl
  apply OL.op; exact Guard.no rfl rfl; rfl; rfl; apply Pev.move; rfl; exact yes
  apply OL.op; exact Guard.no rfl rfl; rfl; rfl; apply Pev.bin; rfl; exact fun h => h; rfl; exact yes; intro hcond; apply Bin.eql
  apply OL.op; exact Guard.none; rfl; rfl; apply Pev.pick_or; rfl; exact yes; rfl; exact fun h => h
  apply omv; rfl; rfl
  apply OL.op; exact Guard.no rfl rfl; rfl; rfl; apply Pev.move; rfl; exact yes
  apply OL.op; exact Guard.no rfl rfl; rfl; rfl; apply Pev.bin; rfl; exact fun h => h; rfl; exact yes; intro hcond; apply Bin.eql
  apply OL.op; exact Guard.none; rfl; rfl; apply Pev.pick_or; rfl; exact yes; rfl; exact fun h => h
  apply oas; rfl; rfl
  apply OL.nil
  with_reducible apply At.next
  apply W.ret
  ((with_reducible apply At.fin1); rfl; rfl; intro w' hw')
  exact ⟨congrArg (fun b => Ending.returned (Value.bool b)) (by rw [Bool.eq_iff_iff, inL_iff]; simp [declL]; omega), by (exact hw'.toExt (by (repeat (first | exact List.Mem.head _ | apply List.Mem.tail))) (fun k hk => by (focus ((try simp only [add_block]); (repeat (first | exact NotOwned.nil | exact hno _ (by omega) | refine NotOwned.nothing ?_ | refine NotOwned.nds (hlow _ (by omega)) ?_ | refine NotOwned.mapS (by omega) ?_ | apply NotOwned.bif | refine NotOwned.blk (by omega) ?_ | refine NotOwned.row (by omega) ?_ | refine NotOwned.grid (by assumption) (by omega) ?_)); done))))⟩
theorem isType_calls (k : Int) (w : World) : Calls Try.prog 60 #[.int .i64 k] w fun e w' => e = .returned (.bool (inL typeL k)) ∧ Ext w w' := by
  refine enter Try.func60 rfl Try.ntmps60 rfl (Cls.start w) ?_
  (simp only [argEnv, Nat.zero_add, Nat.reduceAdd])
  apply W.seq
  apply W.reg
  apply oas; rfl; rfl
  apply OL.nil
  with_reducible apply At.next
  apply W.seq
  apply W.reg
  apply omv; rfl; rfl
  apply obn; rfl; rfl; rfl; apply Bin.geq
  apply omv; rfl; rfl
  apply OL.op; exact Guard.yes rfl rfl; rfl; rfl; apply Pev.move; rfl; exact yes
  apply OL.op; exact Guard.yes rfl rfl; rfl; rfl; apply Pev.bin; rfl; exact fun h => h; rfl; exact yes; intro hcond; apply Bin.leq
  apply OL.op; exact Guard.none; rfl; rfl; apply Pev.pick_and; rfl; exact yes; rfl; exact fun h => h
  apply oas; rfl; rfl
  apply OL.nil
  with_reducible apply At.next
  apply W.ret
  ((with_reducible apply At.fin1); rfl; rfl; intro w' hw')
  exact ⟨congrArg (fun b => Ending.returned (Value.bool b)) (by rw [Bool.eq_iff_iff, inL_iff]; simp [typeL]; omega), by (exact hw'.toExt (by (repeat (first | exact List.Mem.head _ | apply List.Mem.tail))) (fun k hk => by (focus ((try simp only [add_block]); (repeat (first | exact NotOwned.nil | exact hno _ (by omega) | refine NotOwned.nothing ?_ | refine NotOwned.nds (hlow _ (by omega)) ?_ | refine NotOwned.mapS (by omega) ?_ | apply NotOwned.bif | refine NotOwned.blk (by omega) ?_ | refine NotOwned.row (by omega) ?_ | refine NotOwned.grid (by assumption) (by omega) ?_)); done))))⟩
theorem isExpr_calls (k : Int) (w : World) : Calls Try.prog 54 #[.int .i64 k] w fun e w' => e = .returned (.bool (inL exprL k)) ∧ Ext w w' := by
  refine enter Try.func54 rfl Try.ntmps54 rfl (Cls.start w) ?_
  (simp only [argEnv, Nat.zero_add, Nat.reduceAdd])
  apply W.seq
  apply W.reg
  apply oas; rfl; rfl
  apply OL.nil
  with_reducible apply At.next
  apply W.seq
  apply W.reg
  apply omv; rfl; rfl
  apply obn; rfl; rfl; rfl; apply Bin.geq
  apply omv; rfl; rfl
  apply OL.op; exact Guard.yes rfl rfl; rfl; rfl; apply Pev.move; rfl; exact yes
  apply OL.op; exact Guard.yes rfl rfl; rfl; rfl; apply Pev.bin; rfl; exact fun h => h; rfl; exact yes; intro hcond; apply Bin.leq
  apply OL.op; exact Guard.none; rfl; rfl; apply Pev.pick_and; rfl; exact yes; rfl; exact fun h => h
  apply omv; rfl; rfl
  apply OL.op; exact Guard.yes rfl rfl; rfl; rfl; apply Pev.move; rfl; exact yes
  apply OL.op; exact Guard.yes rfl rfl; rfl; rfl; apply Pev.bin; rfl; exact fun h => h; rfl; exact yes; intro hcond; apply Bin.neq
  apply OL.op; exact Guard.none; rfl; rfl; apply Pev.pick_and; rfl; exact yes; rfl; exact fun h => h
  apply oas; rfl; rfl
  apply OL.nil
  with_reducible apply At.next
  apply W.ret
  ((with_reducible apply At.fin1); rfl; rfl; intro w' hw')
  exact ⟨congrArg (fun b => Ending.returned (Value.bool b)) (by rw [Bool.eq_iff_iff, inL_iff]; simp [exprL]; omega), by (exact hw'.toExt (by (repeat (first | exact List.Mem.head _ | apply List.Mem.tail))) (fun k hk => by (focus ((try simp only [add_block]); (repeat (first | exact NotOwned.nil | exact hno _ (by omega) | refine NotOwned.nothing ?_ | refine NotOwned.nds (hlow _ (by omega)) ?_ | refine NotOwned.mapS (by omega) ?_ | apply NotOwned.bif | refine NotOwned.blk (by omega) ?_ | refine NotOwned.row (by omega) ?_ | refine NotOwned.grid (by assumption) (by omega) ?_)); done))))⟩
theorem isParam_calls (k : Int) (w : World) : Calls Try.prog 72 #[.int .i64 k] w fun e w' => e = .returned (.bool (inL parL k)) ∧ Ext w w' := by
  refine enter Try.func72 rfl Try.ntmps72 rfl (Cls.start w) ?_
  (simp only [argEnv, Nat.zero_add, Nat.reduceAdd])
  apply W.seq
  apply W.reg
  apply oas; rfl; rfl
  apply OL.nil
  with_reducible apply At.next
  apply W.seq
  apply W.reg
  apply omv; rfl; rfl
  apply obn; rfl; rfl; rfl; apply Bin.eql
  apply omv; rfl; rfl
  apply OL.op; exact Guard.no rfl rfl; rfl; rfl; apply Pev.move; rfl; exact yes
  apply OL.op; exact Guard.no rfl rfl; rfl; rfl; apply Pev.bin; rfl; exact fun h => h; rfl; exact yes; intro hcond; apply Bin.eql
  apply OL.op; exact Guard.none; rfl; rfl; apply Pev.pick_or; rfl; exact yes; rfl; exact fun h => h
  apply oas; rfl; rfl
  apply OL.nil
  with_reducible apply At.next
  apply W.ret
  ((with_reducible apply At.fin1); rfl; rfl; intro w' hw')
  exact ⟨congrArg (fun b => Ending.returned (Value.bool b)) (by rw [Bool.eq_iff_iff, inL_iff]; simp [parL]), by (exact hw'.toExt (by (repeat (first | exact List.Mem.head _ | apply List.Mem.tail))) (fun k hk => by (focus ((try simp only [add_block]); (repeat (first | exact NotOwned.nil | exact hno _ (by omega) | refine NotOwned.nothing ?_ | refine NotOwned.nds (hlow _ (by omega)) ?_ | refine NotOwned.mapS (by omega) ?_ | apply NotOwned.bif | refine NotOwned.blk (by omega) ?_ | refine NotOwned.row (by omega) ?_ | refine NotOwned.grid (by assumption) (by omega) ?_)); done))))⟩
theorem isPat_calls (k : Int) (w : World) : Calls Try.prog 73 #[.int .i64 k] w fun e w' => e = .returned (.bool (inL patL k)) ∧ Ext w w' := by
  refine enter Try.func73 rfl Try.ntmps73 rfl (Cls.start w) ?_
  (simp only [argEnv, Nat.zero_add, Nat.reduceAdd])
  apply W.seq
  apply W.reg
  apply oas; rfl; rfl
  apply OL.nil
  with_reducible apply At.next
  apply W.seq
  apply W.reg
  apply omv; rfl; rfl
  apply obn; rfl; rfl; rfl; apply Bin.geq
  apply omv; rfl; rfl
  apply OL.op; exact Guard.yes rfl rfl; rfl; rfl; apply Pev.move; rfl; exact yes
  apply OL.op; exact Guard.yes rfl rfl; rfl; rfl; apply Pev.bin; rfl; exact fun h => h; rfl; exact yes; intro hcond; apply Bin.leq
  apply OL.op; exact Guard.none; rfl; rfl; apply Pev.pick_and; rfl; exact yes; rfl; exact fun h => h
  apply oas; rfl; rfl
  apply OL.nil
  with_reducible apply At.next
  apply W.ret
  ((with_reducible apply At.fin1); rfl; rfl; intro w' hw')
  exact ⟨congrArg (fun b => Ending.returned (Value.bool b)) (by rw [Bool.eq_iff_iff, inL_iff]; simp [patL]; omega), by (exact hw'.toExt (by (repeat (first | exact List.Mem.head _ | apply List.Mem.tail))) (fun k hk => by (focus ((try simp only [add_block]); (repeat (first | exact NotOwned.nil | exact hno _ (by omega) | refine NotOwned.nothing ?_ | refine NotOwned.nds (hlow _ (by omega)) ?_ | refine NotOwned.mapS (by omega) ?_ | apply NotOwned.bif | refine NotOwned.blk (by omega) ?_ | refine NotOwned.row (by omega) ?_ | refine NotOwned.grid (by assumption) (by omega) ?_)); done))))⟩
theorem none_calls (k : Int) (w : World) : Calls Try.prog 78 #[.int .i64 k] w fun e w' => e = .returned (.bool (inL [] k)) ∧ Ext w w' := by
  refine enter Try.func78 rfl Try.ntmps78 rfl (Cls.start w) ?_
  (simp only [argEnv, Nat.zero_add, Nat.reduceAdd])
  apply W.seq
  apply W.reg
  apply oas; rfl; rfl
  apply OL.nil
  with_reducible apply At.next
  apply W.seq
  apply W.reg
  apply oas; rfl; rfl
  apply OL.nil
  with_reducible apply At.next
  apply W.ret
  ((with_reducible apply At.fin1); rfl; rfl; intro w' hw')
  exact ⟨rfl, by (exact hw'.toExt (by (repeat (first | exact List.Mem.head _ | apply List.Mem.tail))) (fun k hk => by (focus ((try simp only [add_block]); (repeat (first | exact NotOwned.nil | exact hno _ (by omega) | refine NotOwned.nothing ?_ | refine NotOwned.nds (hlow _ (by omega)) ?_ | refine NotOwned.mapS (by omega) ?_ | apply NotOwned.bif | refine NotOwned.blk (by omega) ?_ | refine NotOwned.row (by omega) ?_ | refine NotOwned.grid (by assumption) (by omega) ?_)); done))))⟩

/-- a function value that tells the kinds of a list, from world w on, whatever becomes of the blocks O -/
structure Fn (O : Nat → Prop) (w : World) (v : Value) (L : List Int) : Prop where
  go : ∃ (f : FuncId) (caps : List Value), v = .func (.func f) (([] : List Value)).toArray caps.toArray ∧ callable Try.prog f = true ∧
    ∀ (x : Int) (w' : World), Keep O w w' → Calls Try.prog f (([] : List Value) ++ [Value.int .i64 x] ++ caps).toArray w' fun e w'' => e = .returned (.bool (inL L x)) ∧ Ext w' w''
theorem Fn.keep {O : Nat → Prop} {w w' : World} {v : Value} {L : List Int} (h : Fn O w v L) (hx : Keep O w w') : Fn O w' v L :=
  ⟨h.go.elim fun f ⟨caps, h1, h2, h3⟩ => ⟨f, caps, h1, h2, fun x w2 h => h3 x w2 (hx.trans h)⟩⟩
theorem Fn.mono {O O' : Nat → Prop} {w : World} {v : Value} {L : List Int} (h : Fn O w v L) (ho : ∀ k, k < w.heap.size → O' k → O k) : Fn O' w v L :=
  ⟨h.go.elim fun f ⟨caps, h1, h2, h3⟩ => ⟨f, caps, h1, h2, fun x w2 h => h3 x w2 (h.mono ho)⟩⟩
/-- at a function's end -/
theorem Fn.out {O : Nat → Prop} {w w' : World} {v : Value} {L : List Int} (h : Fn O w v L) (hx : Keep O w w') : Fn (fun _ => False) w' v L := (h.keep hx).mono fun _ _ h => h.elim
theorem Fn.decl (O : Nat → Prop) (w : World) : Fn O w (.func (.func 69) #[] #[]) declL := ⟨_, [], rfl, rfl, fun x w' _ => isDecl_calls x w'⟩
theorem Fn.type (O : Nat → Prop) (w : World) : Fn O w (.func (.func 60) #[] #[]) typeL := ⟨_, [], rfl, rfl, fun x w' _ => isType_calls x w'⟩
theorem Fn.expr (O : Nat → Prop) (w : World) : Fn O w (.func (.func 54) #[] #[]) exprL := ⟨_, [], rfl, rfl, fun x w' _ => isExpr_calls x w'⟩
theorem Fn.par (O : Nat → Prop) (w : World) : Fn O w (.func (.func 72) #[] #[]) parL := ⟨_, [], rfl, rfl, fun x w' _ => isParam_calls x w'⟩
theorem Fn.pat (O : Nat → Prop) (w : World) : Fn O w (.func (.func 73) #[] #[]) patL := ⟨_, [], rfl, rfl, fun x w' _ => isPat_calls x w'⟩
theorem Fn.none (O : Nat → Prop) (w : World) : Fn O w (.func (.func 78) #[] #[]) [] := ⟨_, [], rfl, rfl, fun x w' _ => none_calls x w'⟩

theorem a1_calls (k x : Int) (b : Nat) (w : World) (hb : b < w.heap.size) (h : w.cell? ⟨b, 0, .none⟩ = some (.int .i64 k)) :
    Calls Try.prog 77 #[.int .i64 x, .pointer (some ⟨b, 0, .none⟩)] w fun e w' => e = .returned (.bool (inL [k] x)) ∧ Ext w w' := by
  refine enter Try.func77 rfl Try.ntmps77 rfl (Cls.start w) ?_
  (simp only [argEnv, Nat.zero_add, Nat.reduceAdd])
  apply W.seq
  apply W.reg
  apply oas; rfl; rfl
  apply OL.nil
  with_reducible apply At.next
  apply W.seq
  apply W.reg
  apply omv; rfl; rfl
  apply OL.op; exact Guard.none; rfl; rfl; apply Pev.load_kept; rfl; exact yes; exact .head _; rfl; intro hcond; assumption; intro hcond; assumption; intro hcond; exact NotOwned.nil
  apply obn; rfl; rfl; rfl; apply Bin.eql
  apply oas; rfl; rfl
  apply OL.nil
  with_reducible apply At.next
  apply W.ret
  ((with_reducible apply At.fin1); rfl; rfl; intro w' hw')
  exact ⟨congrArg (fun b => Ending.returned (Value.bool b)) (by rw [Bool.eq_iff_iff, inL_iff]; simp), by (exact hw'.toExt (by (repeat (first | exact List.Mem.head _ | apply List.Mem.tail))) (fun k hk => by (focus ((try simp only [add_block]); (repeat (first | exact NotOwned.nil | exact hno _ (by omega) | refine NotOwned.nothing ?_ | refine NotOwned.nds (hlow _ (by omega)) ?_ | refine NotOwned.mapS (by omega) ?_ | apply NotOwned.bif | refine NotOwned.blk (by omega) ?_ | refine NotOwned.row (by omega) ?_ | refine NotOwned.grid (by assumption) (by omega) ?_)); done))))⟩
theorem a_calls (k : Int) (O : Nat → Prop) (w : World) (hO : ∀ k, O k → k < w.heap.size) : Calls Try.prog 67 #[.int .i64 k] w fun e w' => ∃ v, e = .returned v ∧ Fn O w' v [k] ∧ Ext w w' := by
  refine enter Try.func67 rfl Try.ntmps67 rfl (Cls.start w) ?_
  (simp only [argEnv, Nat.zero_add, Nat.reduceAdd])
  apply W.seq
  apply W.reg
  apply OL.box; rfl; rfl; exact CellsL.one rfl; (intro bk hbk; simp only [AllLe, and_true] at hbk)
  apply oas; rfl; rfl
  apply OL.nil
  with_reducible apply At.next
  apply W.seq
  apply W.reg
  apply OL.op; exact Guard.none; rfl; rfl; apply Pev.makeFunc; exact Args.nil; apply Args.cons rfl; exact yes; exact Args.nil
  apply oas; rfl; rfl
  apply OL.nil
  with_reducible apply At.next
  apply W.ret
  ((with_reducible apply At.fin1); rfl; rfl; intro w' hw')
  have hb := hw'.item (i := blk bk 3 [.int .i64 k]) (by (repeat (first | exact List.Mem.head _ | apply List.Mem.tail)))
  have hn : ¬ O bk := fun h => by have := hO _ h; omega
  exact ⟨_, rfl, ⟨_, [_], rfl, rfl, fun x w2 hx => a1_calls k x bk w2 (Nat.lt_of_lt_of_le (blk_lt hb) hx.size) ((World.cell?_of_block (hx.block bk (blk_lt hb) hn)).trans (blk_cell hb))⟩, by (exact hw'.toExt (by (repeat (first | exact List.Mem.head _ | apply List.Mem.tail))) (fun k hk => by (focus ((try simp only [add_block]); (repeat (first | exact NotOwned.nil | exact hno _ (by omega) | refine NotOwned.nothing ?_ | refine NotOwned.nds (hlow _ (by omega)) ?_ | refine NotOwned.mapS (by omega) ?_ | apply NotOwned.bif | refine NotOwned.blk (by omega) ?_ | refine NotOwned.row (by omega) ?_ | refine NotOwned.grid (by assumption) (by omega) ?_)); done))))⟩

theorem either1_calls (A B : List Int) (O : Nat → Prop) (v u : Value) (x : Int) (b c : Nat) (w : World) (hv : Fn O w v A) (hu : Fn O w u B) (hb : b < w.heap.size) (hc : c < w.heap.size) (h : w.cell? ⟨b, 0, .none⟩ = some v) (h' : w.cell? ⟨c, 0, .none⟩ = some u) :
    Calls Try.prog 79 #[.int .i64 x, .pointer (some ⟨b, 0, .none⟩), .pointer (some ⟨c, 0, .none⟩)] w fun e w' => e = .returned (.bool (inL (A ++ B) x)) ∧ Ext w w' := by
  obtain ⟨f, caps, rfl, hf, hfc⟩ := hv.go
  obtain ⟨g, caps2, rfl, hg, hgc⟩ := hu.go
  refine enter Try.func79 rfl Try.ntmps79 rfl (Cls.start w) ?_
  (simp only [argEnv, Nat.zero_add, Nat.reduceAdd])
  apply W.seq
  apply W.reg
  apply oas; rfl; rfl
  apply OL.nil
  with_reducible apply At.next
  apply W.seq
  apply W.reg
  apply OL.op; exact Guard.none; rfl; rfl; apply Pev.load_kept; rfl; exact yes; exact .head _; rfl; intro hcond; assumption; intro hcond; assumption; intro hcond; exact NotOwned.nil
  apply omv; rfl; rfl
  (((first | (with_reducible apply OL.op) | (with_reducible apply QL.op)); ((first | exact Guard.none | exact Guard.yes rfl rfl | exact Guard.no rfl rfl | exact Guard.cyes rfl rfl | exact Guard.cno rfl rfl)); rfl; rfl); (apply Pev.callv (first := []) (cap := caps)); rfl; ((first | exact fun _ => rfl | exact fun h => h | (intro h; simp_all; done))); (exact hf); ((repeat (first | exact Args.nil | (apply Args.cons rfl; ((first | exact fun _ => rfl | exact fun h => h | (intro h; simp_all; done))))))); (exact (fun _ w2 hw2 => (hfc x w2 ((hw2.toExt (by (repeat (first | exact List.Mem.head _ | apply List.Mem.tail))) (fun k hk => by (focus ((try simp only [add_block]); (repeat (first | exact NotOwned.nil | exact hno _ (by omega) | refine NotOwned.nothing ?_ | refine NotOwned.nds (hlow _ (by omega)) ?_ | refine NotOwned.mapS (by omega) ?_ | apply NotOwned.bif | refine NotOwned.blk (by omega) ?_ | refine NotOwned.row (by omega) ?_ | refine NotOwned.grid (by assumption) (by omega) ?_)); done)))).mono fun _ _ h => h.elim)).mono (fun e w3 h => ⟨h.1, hw2.ext h.2⟩))))
  apply omv; rfl; rfl
  apply OL.op; exact Guard.no rfl rfl; rfl; rfl; apply Pev.load_kept; rfl; exact yes; exact .head _; rfl; intro hcond; assumption; intro hcond; assumption; intro hcond; exact NotOwned.nil
  apply OL.op; exact Guard.no rfl rfl; rfl; rfl; apply Pev.move; rfl; exact yes
  (((first | (with_reducible apply OL.op) | (with_reducible apply QL.op)); ((first | exact Guard.none | exact Guard.yes rfl rfl | exact Guard.no rfl rfl | exact Guard.cyes rfl rfl | exact Guard.cno rfl rfl)); rfl; rfl); (apply Pev.callv (first := []) (cap := caps2)); rfl; ((first | exact fun _ => rfl | exact fun h => h | (intro h; simp_all; done))); (exact hg); ((repeat (first | exact Args.nil | (apply Args.cons rfl; ((first | exact fun _ => rfl | exact fun h => h | (intro h; simp_all; done))))))); (exact (fun _ w2 hw2 => (hgc x w2 ((hw2.toExt (by (repeat (first | exact List.Mem.head _ | apply List.Mem.tail))) (fun k hk => by (focus ((try simp only [add_block]); (repeat (first | exact NotOwned.nil | exact hno _ (by omega) | refine NotOwned.nothing ?_ | refine NotOwned.nds (hlow _ (by omega)) ?_ | refine NotOwned.mapS (by omega) ?_ | apply NotOwned.bif | refine NotOwned.blk (by omega) ?_ | refine NotOwned.row (by omega) ?_ | refine NotOwned.grid (by assumption) (by omega) ?_)); done)))).mono fun _ _ h => h.elim)).mono (fun e w3 h => ⟨h.1, hw2.ext h.2⟩))))
  apply OL.op; exact Guard.none; rfl; rfl; apply Pev.pick_or; rfl; exact yes; rfl; exact fun h => h
  apply oas; rfl; rfl
  apply OL.nil
  with_reducible apply At.next
  apply W.ret
  ((with_reducible apply At.fin1); rfl; rfl; intro w' hw')
  exact ⟨congrArg (fun b => Ending.returned (Value.bool b)) (by rw [inL_append]), by (exact hw'.toExt (by (repeat (first | exact List.Mem.head _ | apply List.Mem.tail))) (fun k hk => by (focus ((try simp only [add_block]); (repeat (first | exact NotOwned.nil | exact hno _ (by omega) | refine NotOwned.nothing ?_ | refine NotOwned.nds (hlow _ (by omega)) ?_ | refine NotOwned.mapS (by omega) ?_ | apply NotOwned.bif | refine NotOwned.blk (by omega) ?_ | refine NotOwned.row (by omega) ?_ | refine NotOwned.grid (by assumption) (by omega) ?_)); done))))⟩
theorem either_calls (A B : List Int) (O : Nat → Prop) (v u : Value) (w : World) (hO : ∀ k, O k → k < w.heap.size) (hv : Fn O w v A) (hu : Fn O w u B) : Calls Try.prog 71 #[v, u] w fun e w' => ∃ v, e = .returned v ∧ Fn O w' v (A ++ B) ∧ Ext w w' := by
  obtain ⟨f, caps, rfl, hf, hfc⟩ := hv.go
  obtain ⟨g, caps2, rfl, hg, hgc⟩ := hu.go
  refine enter Try.func71 rfl Try.ntmps71 rfl (Cls.start w) ?_
  (simp only [argEnv, Nat.zero_add, Nat.reduceAdd])
  apply W.seq
  apply W.reg
  apply OL.box; rfl; rfl; exact CellsL.one rfl; (intro bk hbk; simp only [AllLe, and_true] at hbk)
  apply OL.box; rfl; rfl; exact CellsL.one rfl; (intro bk hbk; simp only [AllLe, and_true] at hbk)
  apply oas; rfl; rfl
  apply OL.nil
  with_reducible apply At.next
  apply W.seq
  apply W.reg
  apply OL.op; exact Guard.none; rfl; rfl; apply Pev.makeFunc; exact Args.nil; apply Args.cons rfl; exact yes; apply Args.cons rfl; exact yes; exact Args.nil
  apply oas; rfl; rfl
  apply OL.nil
  with_reducible apply At.next
  apply W.ret
  ((with_reducible apply At.fin1); rfl; rfl; intro w' hw')
  rename_i b1 hb1
  have h1 := hw'.item (i := blk b1 100 [.func (.func f) (([] : List Value)).toArray caps.toArray]) (by (repeat (first | exact List.Mem.head _ | apply List.Mem.tail)))
  have h2 := hw'.item (i := blk bk 100 [.func (.func g) (([] : List Value)).toArray caps2.toArray]) (by (repeat (first | exact List.Mem.head _ | apply List.Mem.tail)))
  have hx1 : Ext w w' := by (exact hw'.toExt (by (repeat (first | exact List.Mem.head _ | apply List.Mem.tail))) (fun k hk => by (focus ((try simp only [add_block]); (repeat (first | exact NotOwned.nil | exact hno _ (by omega) | refine NotOwned.nothing ?_ | refine NotOwned.nds (hlow _ (by omega)) ?_ | refine NotOwned.mapS (by omega) ?_ | apply NotOwned.bif | refine NotOwned.blk (by omega) ?_ | refine NotOwned.row (by omega) ?_ | refine NotOwned.grid (by assumption) (by omega) ?_)); done))))
  have n1 : ¬ O b1 := fun h => by have := hO _ h; omega
  have n2 : ¬ O bk := fun h => by have := hO _ h; omega
  have hx2 : Keep O w w' := hx1.mono fun _ _ h => h.elim
  exact ⟨_, rfl, ⟨_, [_, _], rfl, rfl, fun x w2 hx => either1_calls A B O _ _ x b1 bk w2 (hv.keep (hx2.trans hx)) (hu.keep (hx2.trans hx)) (Nat.lt_of_lt_of_le (blk_lt h1) hx.size) (Nat.lt_of_lt_of_le (blk_lt h2) hx.size) ((World.cell?_of_block (hx.block b1 (blk_lt h1) n1)).trans (blk_cell h1)) ((World.cell?_of_block (hx.block bk (blk_lt h2) n2)).trans (blk_cell h2))⟩, hx1⟩
theorem owned_lt {H : List Eng.Item} {S : List World} {w : World} (h : Cls H S w) : ∀ k, owned H k → k < w.heap.size := fun k ⟨i, hi, ho⟩ => h.lt i hi k ho

/-- a call that yields a function value -/
theorem OL.callFn {n : Nat} {ops : Array Oper} {Q : Exit → Act → World → Prop} {rest : List Oper} {l : Env} {H : List Eng.Item} {S : List World} {ty : TypeId} {pos : String} {af : Array Edge} (L : List Int) {f : FuncId} {args : List Operand} {vs : List Value} {ats : Array TypeId} {dd : Nat} (hn : Nat.ble (dd + 1) n = true) (hf : callable Try.prog f = true) (ha : Args l true args vs)
    (h : ∀ w, Cls H S w → Calls Try.prog f vs.toArray w fun e w' => ∃ v, e = .returned v ∧ Fn (owned H) w' v L ∧ Ext w w')
    (k : ∀ (f' : FuncId) (caps : List Value) (w1 : World), Fn (owned H) w1 (.func (.func f') (([] : List Value)).toArray caps.toArray) L → (∀ s ∈ S, s.heap.size ≤ w1.heap.size) → OL Try.prog n ops Q rest ((dd, true, .func (.func f') (([] : List Value)).toArray caps.toArray) :: l) (Cls H (w1 :: S))) :
    OL Try.prog n ops Q (⟨some dd, .call { callee := .value (.func f), args := args.toArray, argTypes := ats }, ty, pos, af, .none⟩ :: rest) l (Cls H S) := by
  refine OL.callE (α := (FuncId × List Value) × World) (fun x => .func (.func x.1.1) (([] : List Value)).toArray x.1.2.toArray) (fun x => Fn (owned H) x.2 (.func (.func x.1.1) (([] : List Value)).toArray x.1.2.toArray) L ∧ ∀ s ∈ S, s.heap.size ≤ x.2.heap.size) (fun x => Cls H (x.2 :: S)) hn hf ha (fun w2 hw2 => ?_) ?_
  · refine (h w2 hw2).mono fun e w3 ⟨v, he, hv, hx⟩ => ?_
    obtain ⟨f', caps, rfl, _⟩ := hv.go
    exact ⟨((f', caps), w3), he, ⟨hv, fun s hs => (((hw2.ext hx).kp s hs).size)⟩, (hw2.ext hx).note⟩
  · rintro ⟨⟨f', caps⟩, w1⟩ ⟨h1, h2⟩
    exact k f' caps w1 h1 h2

theorem many_calls (f : FuncId) (caps : List Value) (k : Int) (w : World) : Calls Try.prog 68 #[.func (.func f) (([] : List Value)).toArray caps.toArray, .int .i64 k] w fun e w' => e = .returned (.agg #[.slice .none 0 0, .slice .none 0 0, .func (.func f) (([] : List Value)).toArray caps.toArray, .int .i64 k]) ∧ Ext w w' := by
  refine enter Try.func68 rfl Try.ntmps68 rfl (Cls.start w) ?_
  (simp only [argEnv, Nat.zero_add, Nat.reduceAdd])
  apply W.seq
  apply W.reg
  apply OL.alloc; rfl; rfl; exact CellsL.agg; (intro bk hbk; simp only [AllLe, and_true] at hbk)
  apply OL.nil
  with_reducible apply At.next
  apply W.seq
  apply W.reg
  apply omv; rfl; rfl
  apply omv; rfl; rfl
  apply OL.op; exact Guard.none; rfl; rfl; apply Pev.build; rfl; exact CellsL.agg; rfl; apply Fill.cons rfl; exact CellsL.one rfl; rfl; rfl; apply Put.skip; apply Put.skip; apply Put.here; apply Over.cons; apply Over.nil; apply Fill.cons rfl; exact CellsL.one rfl; rfl; rfl; apply Put.skip; apply Put.skip; apply Put.skip; apply Put.here; apply Over.cons; apply Over.nil; apply Fill.nil; rfl
  apply OL.storeB; rfl; rfl; exact CellsL.agg; rfl; rfl; rfl; apply Swap.z; apply Put.here; apply Over.cons; apply Over.cons; apply Over.cons; apply Over.cons; apply Over.nil
  apply OL.nil
  with_reducible apply At.next
  apply W.ret
  refine At.finC (b := bk) (cs := [.slice .none 0 0, .slice .none 0 0, .func (.func f) (([] : List Value)).toArray caps.toArray, .int .i64 k]) rfl rfl (by (repeat (first | exact List.Mem.head _ | apply List.Mem.tail))) rfl rfl (fun w' hw' => ⟨rfl, by (exact hw'.toExt (by (repeat (first | exact List.Mem.head _ | apply List.Mem.tail))) (fun k hk => by (focus ((try simp only [add_block]); (repeat (first | exact NotOwned.nil | exact hno _ (by omega) | refine NotOwned.nothing ?_ | refine NotOwned.nds (hlow _ (by omega)) ?_ | refine NotOwned.mapS (by omega) ?_ | apply NotOwned.bif | refine NotOwned.blk (by omega) ?_ | refine NotOwned.row (by omega) ?_ | refine NotOwned.grid (by assumption) (by omega) ?_)); done))))⟩)
theorem list_calls (q : Option Addr) (n c : Nat) (w : World) : Calls Try.prog 70 #[.slice q n c] w fun e w' => e = .returned (.agg #[.slice q n c, .slice .none 0 0, .func (.func 78) #[] #[], .int .i64 0]) ∧ Ext w w' := by
  refine enter Try.func70 rfl Try.ntmps70 rfl (Cls.start w) ?_
  (simp only [argEnv, Nat.zero_add, Nat.reduceAdd])
  apply W.seq
  apply W.reg
  apply OL.alloc; rfl; rfl; exact CellsL.agg; (intro bk hbk; simp only [AllLe, and_true] at hbk)
  apply OL.nil
  with_reducible apply At.next
  apply W.seq
  apply W.reg
  apply omv; rfl; rfl
  apply OL.op; exact Guard.none; rfl; rfl; apply Pev.build; rfl; exact CellsL.agg; rfl; apply Fill.cons rfl; exact CellsL.one rfl; rfl; rfl; apply Put.here; apply Over.cons; apply Over.nil; apply Fill.cons rfl; exact CellsL.one rfl; rfl; rfl; apply Put.skip; apply Put.skip; apply Put.here; apply Over.cons; apply Over.nil; apply Fill.nil; rfl
  apply OL.storeB; rfl; rfl; exact CellsL.agg; rfl; rfl; rfl; apply Swap.z; apply Put.here; apply Over.cons; apply Over.cons; apply Over.cons; apply Over.cons; apply Over.nil
  apply OL.nil
  with_reducible apply At.next
  apply W.ret
  refine At.finC (b := bk) (cs := [.slice q n c, .slice .none 0 0, .func (.func 78) #[] #[], .int .i64 0]) rfl rfl (by (repeat (first | exact List.Mem.head _ | apply List.Mem.tail))) rfl rfl (fun w' hw' => ⟨rfl, by (exact hw'.toExt (by (repeat (first | exact List.Mem.head _ | apply List.Mem.tail))) (fun k hk => by (focus ((try simp only [add_block]); (repeat (first | exact NotOwned.nil | exact hno _ (by omega) | refine NotOwned.nothing ?_ | refine NotOwned.nds (hlow _ (by omega)) ?_ | refine NotOwned.mapS (by omega) ?_ | apply NotOwned.bif | refine NotOwned.blk (by omega) ?_ | refine NotOwned.row (by omega) ?_ | refine NotOwned.grid (by assumption) (by omega) ?_)); done))))⟩)
end Go.Proofs.Ytlcclcakdfmgkaa.pk
