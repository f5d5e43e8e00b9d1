import Derived.Test.YtahamnipffckhaaDoorAm10
set_option linter.unusedVariables false
set_option linter.unusedSimpArgs false
namespace Go.Proofs.YtahamnipffckhaaDoor
open Go Go.RowKit

/-! ### 23. Reckoning -/
attribute [go_sem] List.head?_cons Nat.add_zero clR mmR lkR muR toKey isNilm mpOf lkV Key.kind
attribute [go_sem] fnOf popTo frzC frzH frzL frzV frzA bldR resL tupV ncR isPtr bnd lnR mnL mxL elsOf ldR ldC stR splice bxR faR iaR ixR scR apR bR frzEls bslR ret1 mfR exR mkI cvR pvs mkAgg RetQ
attribute [go_sem] List.length_cons List.length_nil List.cons_append List.nil_append List.getElem?_cons_zero List.getElem?_cons_succ List.set_cons_zero List.set_cons_succ List.map_cons List.map_nil List.take_succ_cons List.take_zero List.take_nil
  List.drop_succ_cons List.drop_zero List.drop_nil List.getElem?_nil List.head?_cons List.getElem?_map List.length_map Option.map_some Option.map_none List.all_cons List.all_nil List.length_append List.length_set List.append_nil
  Option.some.injEq and_self and_true true_and Bool.not_true Bool.not_false Bool.true_and Bool.and_true Bool.false_and Bool.and_false decide_true decide_false if_true if_false ite_true ite_false List.getD_eq_getElem?_getD Option.getD_some Int.toNat_natCast beq_self_eq_true List.map_map Function.comp_apply
section
variable {P : Program} {e : AEnv} {h : AHeap}
@[go_sem] theorem kind_move (x : Operand) : kind (.move x) = 0 := (rfl)
@[go_sem] theorem kind_assign (x : Operand) : kind (.assign x) = 0 := (rfl)
@[go_sem] theorem kind_pick (x y z : Operand) : kind (.pick x y z) = 0 := (rfl)
@[go_sem] theorem kind_alloc (t : TypeId) : kind (.alloc t) = 0 := (rfl)
@[go_sem] theorem kind_box (t : TypeId) (x : Operand) : kind (.box t x) = 0 := (rfl)
@[go_sem] theorem kind_build (t : TypeId) (l : Array (Nat × Operand)) : kind (.build t l) = 0 := (rfl)
@[go_sem] theorem kind_buildSlice (t : TypeId) (n : Nat) (l : Array (Nat × Operand)) : kind (.buildSlice t n l) = 0 := (rfl)
@[go_sem] theorem kind_load (t : TypeId) (x : Operand) : kind (.load t x) = 0 := (rfl)
@[go_sem] theorem kind_nilCheck (x : Operand) : kind (.nilCheck x) = 0 := (rfl)
@[go_sem] theorem kind_binOp (o : BinOp) (t t' : TypeId) (x y : Operand) : kind (.binOp o t x y t') = 0 := (rfl)
@[go_sem] theorem kind_unOp (o : UnOp) (t : TypeId) (x : Operand) : kind (.unOp o t x) = 0 := (rfl)
@[go_sem] theorem kind_convert (s d : TypeId) (x : Operand) : kind (.convert s d x) = 0 := (rfl)
@[go_sem] theorem kind_makeInterface (t : TypeId) (x : Operand) : kind (.makeInterface t x) = 0 := (rfl)
@[go_sem] theorem kind_makeFunc (f : Fn) (a b : Array Operand) : kind (.makeFunc f a b) = 0 := (rfl)
@[go_sem] theorem kind_fieldAddr (s : TypeId) (x : Operand) (f : Nat) : kind (.fieldAddr s x f) = 0 := (rfl)
@[go_sem] theorem kind_indexAddr (t : TypeId) (x i : Operand) : kind (.indexAddr t x i) = 0 := (rfl)
@[go_sem] theorem kind_index (t : TypeId) (x i : Operand) : kind (.index t x i) = 0 := (rfl)
@[go_sem] theorem kind_slice (t : TypeId) (x : Operand) (a b c : Option Operand) : kind (.slice t x a b c) = 0 := (rfl)
@[go_sem] theorem kind_extract (x : Operand) (i : Nat) : kind (.extract x i) = 0 := (rfl)
@[go_sem] theorem kind_makeMap (t : TypeId) (r : Option Operand) : kind (.makeMap t r) = 0 := (rfl)
@[go_sem] theorem kind_lookup (t : TypeId) (x y : Operand) (b : Bool) : kind (.lookup t x y b) = 0 := (rfl)
@[go_sem] theorem kind_mapUpdate (t : TypeId) (x y z : Operand) : kind (.mapUpdate t x y z) = 0 := (rfl)
@[go_sem] theorem kind_store (t : TypeId) (x y : Operand) : kind (.store t x y) = 0 := (rfl)
@[go_sem] theorem kind_len (a : Array Operand) (b : Array TypeId) : kind (.call ⟨.builtin .len, a, b⟩) = 0 := (rfl)
@[go_sem] theorem kind_clear (a : Array Operand) (b : Array TypeId) : kind (.call ⟨.builtin .clear, a, b⟩) = 0 := (rfl)
@[go_sem] theorem kind_append (a : Array Operand) (b : Array TypeId) : kind (.call ⟨.builtin .append, a, b⟩) = 0 := (rfl)
@[go_sem] theorem kind_min (a : Array Operand) (b : Array TypeId) : kind (.call ⟨.builtin .min, a, b⟩) = 0 := (rfl)
@[go_sem] theorem kind_max (a : Array Operand) (b : Array TypeId) : kind (.call ⟨.builtin .max, a, b⟩) = 0 := (rfl)
def E0 : AEnv := fun _ => .undef
@[go_sem] theorem E0_get (t : Nat) : E0 t = .undef := (rfl)
@[go_sem] theorem put_get (e : AEnv) (d t : Nat) (v : AV) : (e.put d v) t = if t = d then v else e t := (rfl)
@[go_sem] theorem putO_some (e : AEnv) (d : Tmp) (v : AV) : putO e (some d) v = e.put d v := (rfl)
@[go_sem] theorem putO_none (e : AEnv) (v : AV) : putO e none v = e := (rfl)
@[go_sem] theorem dstOk_some {N d : Nat} : dstOk N (some d) = decide (d < N) := by simp only [dstOk]; rw [Bool.eq_iff_iff]; simp
@[go_sem] theorem dstOk_none {N : Nat} : dstOk N none = true := (rfl)
@[go_sem] theorem argE_0 : argE [] = E0 := by funext t; simp [argE, E0]
@[go_sem] theorem argE_1 (a : AV) : argE [a] = E0.put 0 a := by funext t; rcases t with _ | t <;> simp [argE, E0, AEnv.put]
@[go_sem] theorem argE_2 (a b : AV) : argE [a, b] = (E0.put 0 a).put 1 b := by funext t; rcases t with _ | _ | t <;> simp [argE, E0, AEnv.put]
@[go_sem] theorem argE_3 (a b c : AV) : argE [a, b, c] = ((E0.put 0 a).put 1 b).put 2 c := by funext t; rcases t with _ | _ | _ | t <;> simp [argE, E0, AEnv.put]
@[go_sem] theorem argE_4 (a b c d : AV) : argE [a, b, c, d] = (((E0.put 0 a).put 1 b).put 2 c).put 3 d := by funext t; rcases t with _ | _ | _ | _ | t <;> simp [argE, E0, AEnv.put]
@[go_sem] theorem argE_5 (a b c d f : AV) : argE [a, b, c, d, f] = ((((E0.put 0 a).put 1 b).put 2 c).put 3 d).put 4 f := by funext t; rcases t with _ | _ | _ | _ | _ | t <;> simp [argE, E0, AEnv.put]
@[go_sem] theorem argE_6 (a b c d f g : AV) : argE [a, b, c, d, f, g] = (((((E0.put 0 a).put 1 b).put 2 c).put 3 d).put 4 f).put 5 g := by funext t; rcases t with _ | _ | _ | _ | _ | _ | t <;> simp [argE, E0, AEnv.put]
@[go_sem] theorem opd_tmp (t : Tmp) : opd e (.tmp t) = e t := (rfl)
@[go_sem] theorem opd_const (v : Value) : opd e (.const v) = cst v := (rfl)
@[go_sem] theorem opd_func (f : FuncId) : opd e (.func f) = .pv (.fn f) := (rfl)
@[go_sem] theorem cst_int (k : IntKind) (n : Int) : cst (.int k n) = .pv (.int k n) := (rfl)
@[go_sem] theorem cst_bool (b : Bool) : cst (.bool b) = .pv (.bool b) := (rfl)
@[go_sem] theorem cst_str (b : ByteArray) : cst (.string b) = .pv (.str b) := (rfl)
@[go_sem] theorem cst_nilp : cst (.pointer none) = .pv .nilp := (rfl)
@[go_sem] theorem cst_nils : cst (.slice none 0 0) = .nils := (rfl)
@[go_sem] theorem cst_nilm : cst (.map none) = .pv .nilm := (rfl)
@[go_sem] theorem cst_nilfn : cst .nilFunc = .pv .nilfn := (rfl)
@[go_sem] theorem cst_nilifc : cst .nilIface = .pv .nilifc := (rfl)
def yldO (e : AEnv) : Option Oper → AV
  | some ⟨some t, _, _, _, _, _⟩ => e t
  | _ => .undef
@[go_sem] theorem yldO_some (t : Tmp) (a : Op) (b : TypeId) (c : String) (d : Array Edge) (g : Option (Nat × Bool)) : yldO e (some ⟨some t, a, b, c, d, g⟩) = e t := (rfl)
@[go_sem] theorem yld_eq (all : List Oper) (j : Nat) : yld all.toArray e j = yldO e all[j]? := by
  unfold yld
  simp only [List.getElem?_toArray]
  cases all[j]? with
  | none => rfl
  | some o =>
    obtain ⟨dst, a, b, c, d, g⟩ := o
    cases dst <;> rfl
attribute [go_sem] AV.cell PV.scalar
def PV.solid : PV → Bool
  | .tup _ => false
  | _ => true
attribute [go_sem] PV.solid
@[go_sem] theorem solid_agg (cs : List AV) : (AV.agg cs).solid = true := (rfl)
@[go_sem] theorem solid_pv (p : PV) : (AV.pv p).solid = p.solid := by cases p <;> rfl
@[go_sem] theorem solid_nils : AV.nils.solid = true := (rfl)
@[go_sem] theorem solid_ptr (a b : Nat) : (AV.ptr a b).solid = true := (rfl)
@[go_sem] theorem solid_eptr (a b c d : Nat) : (AV.eptr a b c d).solid = true := (rfl)
@[go_sem] theorem solid_iptr (cs : List PV) : (AV.iptr cs).solid = true := (rfl)
@[go_sem] theorem solid_osl (a b : Nat) : (AV.osl a b).solid = true := (rfl)
@[go_sem] theorem solid_osb (a b c d : Nat) : (AV.osb a b c d).solid = true := (rfl)
@[go_sem] theorem solid_fn (f : FuncId) (cs : List AV) : (AV.fn f cs).solid = true := (rfl)
@[go_sem] theorem solid_mp (a : Nat) : (AV.mp a).solid = true := (rfl)
@[go_sem] theorem cells_agg (cs : List AV) : (AV.agg cs).cells = cs := (rfl)
@[go_sem] theorem cells_pagg (cs : List PV) : (AV.pv (.agg cs)).cells = cs.map .pv := (rfl)
@[go_sem] theorem cells_int (k : IntKind) (n : Int) : (AV.pv (.int k n)).cells = [.pv (.int k n)] := (rfl)
@[go_sem] theorem cells_bool (b : Bool) : (AV.pv (.bool b)).cells = [.pv (.bool b)] := (rfl)
@[go_sem] theorem cells_str (b : ByteArray) : (AV.pv (.str b)).cells = [.pv (.str b)] := (rfl)
@[go_sem] theorem cells_sl (b : List (List PV)) : (AV.pv (.sl b)).cells = [.pv (.sl b)] := (rfl)
@[go_sem] theorem cells_nilp : (AV.pv .nilp).cells = [.pv .nilp] := (rfl)
@[go_sem] theorem cells_pfn (f : FuncId) : (AV.pv (.fn f)).cells = [.pv (.fn f)] := (rfl)
@[go_sem] theorem cells_nilm : (AV.pv .nilm).cells = [.pv .nilm] := (rfl)
@[go_sem] theorem cells_nilfn : (AV.pv .nilfn).cells = [.pv .nilfn] := (rfl)
@[go_sem] theorem cells_nils : AV.nils.cells = [.nils] := (rfl)
@[go_sem] theorem cells_ptr (a b : Nat) : (AV.ptr a b).cells = [.ptr a b] := (rfl)
@[go_sem] theorem cells_eptr (a b c d : Nat) : (AV.eptr a b c d).cells = [.eptr a b c d] := (rfl)
@[go_sem] theorem cells_iptr (cs : List PV) : (AV.iptr cs).cells = [.iptr cs] := (rfl)
@[go_sem] theorem cells_osl (a b : Nat) : (AV.osl a b).cells = [.osl a b] := (rfl)
@[go_sem] theorem cells_osb (a b c d : Nat) : (AV.osb a b c d).cells = [.osb a b c d] := (rfl)
@[go_sem] theorem cells_fn (f : FuncId) (cs : List AV) : (AV.fn f cs).cells = [.fn f cs] := (rfl)
@[go_sem] theorem cells_mp (a : Nat) : (AV.mp a).cells = [.mp a] := (rfl)
@[go_sem] theorem opA_move (x : Operand) : opA P e h (.move x) = some (opd e x, h) := (rfl)
@[go_sem] theorem opA_assign (x : Operand) : opA P e h (.assign x) = some (opd e x, h) := (rfl)
def pkR (c a b : AV) (h : AHeap) : Option (AV × AHeap) := match c with
  | .pv (.bool t) => some (if t = true then a else b, h)
  | _ => none
@[go_sem] theorem pkR_t (a b : AV) : pkR (.pv (.bool true)) a b h = some (a, h) := (rfl)
@[go_sem] theorem pkR_f (a b : AV) : pkR (.pv (.bool false)) a b h = some (b, h) := (rfl)
theorem pkR_and (t x : Bool) : pkR (.pv (.bool t)) (.pv (.bool x)) (.pv (.bool false)) h = some (.pv (.bool (t && x)), h) := by cases t <;> rfl
theorem pkR_or (t x : Bool) : pkR (.pv (.bool t)) (.pv (.bool true)) (.pv (.bool x)) h = some (.pv (.bool (t || x)), h) := by cases t <;> rfl
@[go_sem] theorem opA_pick (c a b : Operand) : opA P e h (.pick c a b) = pkR (opd e c) (opd e a) (opd e b) h := by
  simp only [opA, sop, pkR]
  split <;> (try rfl) <;> simp_all
def alR (z : Option (List AV)) (h : AHeap) : Option (AV × AHeap) := match z with
  | some cs => some (.ptr h.length 0, h ++ [.box cs])
  | none => none
attribute [go_sem] alR
@[go_sem] theorem opA_alloc (t : TypeId) : opA P e h (.alloc t) = alR (zeroT P t) h := (rfl)
def bxA (z : Option AHeap) (h : AHeap) : Option (AV × AHeap) := match z with
  | some h' => some (.ptr h.length 0, h')
  | none => none
attribute [go_sem] bxA
@[go_sem] theorem opA_box (t : TypeId) (x : Operand) : opA P e h (.box t x) = bxA (bxR (opd e x) h) h := (rfl)
@[go_sem] theorem opA_build (t : TypeId) (l : List (Nat × Operand)) : opA P e h (.build t l.toArray) = ret1 (bR P t (l.map fun p => (p.1, opd e p.2))) h := (rfl)
@[go_sem] theorem opA_buildSlice (t : TypeId) (n : Nat) (l : List (Nat × Operand)) : opA P e h (.buildSlice t n l.toArray) = bslR P t n (l.map fun p => (p.1, opd e p.2)) h := (rfl)
@[go_sem] theorem opA_load (t : TypeId) (x : Operand) : opA P e h (.load t x) = ret1 (ldR P t (opd e x) h) h := (rfl)
@[go_sem] theorem opA_nilCheck (x : Operand) : opA P e h (.nilCheck x) = ret1 (ncR (opd e x)) h := (rfl)
@[go_sem] theorem opA_binOp (o : BinOp) (t t' : TypeId) (x y : Operand) : opA P e h (.binOp o t x y t') = ret1 (binR P o t (opd e x) (opd e y)) h := (rfl)
@[go_sem] theorem opA_unOp (o : UnOp) (t : TypeId) (x : Operand) : opA P e h (.unOp o t x) = ret1 (unR o (opd e x)) h := (rfl)
@[go_sem] theorem opA_convert (s d : TypeId) (x : Operand) : opA P e h (.convert s d x) = ret1 (cvR P s d (opd e x)) h := (rfl)
@[go_sem] theorem opA_makeInterface (t : TypeId) (x : Operand) : opA P e h (.makeInterface t x) = ret1 (mkI P t (opd e x)) h := (rfl)
@[go_sem] theorem opA_makeFunc (f : Fn) (cs : List Operand) : opA P e h (.makeFunc f #[] cs.toArray) = ret1 (mfR f (cs.map (opd e))) h := (rfl)
@[go_sem] theorem opA_fieldAddr (s : TypeId) (f : Nat) (x : Operand) : opA P e h (.fieldAddr s x f) = ret1 (faR P s f (opd e x)) h := (rfl)
@[go_sem] theorem opA_indexAddr (t : TypeId) (x i : Operand) : opA P e h (.indexAddr t x i) = ret1 (iaR P t (opd e x) (opd e i)) h := (rfl)
@[go_sem] theorem opA_index (t : TypeId) (x i : Operand) : opA P e h (.index t x i) = ret1 (ixR P t (opd e x) (opd e i)) h := (rfl)
@[go_sem] theorem opA_slice (t : TypeId) (x : Operand) (lo hi : Option Operand) : opA P e h (.slice t x lo hi none) = ret1 (scR P t (opd e x) (lo.map (opd e)) (hi.map (opd e))) h := (rfl)
@[go_sem] theorem opA_makeMap (t : TypeId) (r : Option Operand) : opA P e h (.makeMap t r) = mmR P t (r.map (opd e)) h := (rfl)
@[go_sem] theorem opA_lookup (t : TypeId) (m k : Operand) (ok : Bool) : opA P e h (.lookup t m k ok) = ret1 (lkR P t (opd e m) (opd e k) ok h) h := (rfl)
@[go_sem] theorem opA_extract (x : Operand) (i : Nat) : opA P e h (.extract x i) = ret1 (exR i (opd e x)) h := (rfl)
@[go_sem] theorem opA_len (x : Operand) (t : TypeId) : opA P e h (.call ⟨.builtin .len, #[x], #[t]⟩) = ret1 (lnR P t (opd e x)) h := (rfl)
@[go_sem] theorem opA_clear (x : Operand) (t : TypeId) : opA P e h (.call ⟨.builtin .clear, #[x], #[t]⟩) = clR P t (opd e x) h := (rfl)
@[go_sem] theorem opA_append (x y : Operand) (t : TypeId) : opA P e h (.call ⟨.builtin .append, #[x, y], #[t, t]⟩) = apR P t (opd e x) (opd e y) h := by
  show (if t = t then apR P t (opd e x) (opd e y) h else none) = _
  rw [if_pos rfl]
@[go_sem] theorem opA_min (x y : Operand) (ts : Array TypeId) : opA P e h (.call ⟨.builtin .min, #[x, y], ts⟩) = ret1 (mnL (opd e x) [opd e y]) h := (rfl)
@[go_sem] theorem opA_max (x y : Operand) (ts : Array TypeId) : opA P e h (.call ⟨.builtin .max, #[x, y], ts⟩) = ret1 (mxL (opd e x) [opd e y]) h := (rfl)
def stA (z : Option AHeap) : Option (AV × AHeap) := match z with
  | some h' => some (.undef, h')
  | none => none
attribute [go_sem] stA
@[go_sem] theorem opA_mapUpdate (t : TypeId) (m k x : Operand) : opA P e h (.mapUpdate t m k x) = stA (muR P t (opd e m) (opd e k) (opd e x) h) := (rfl)
@[go_sem] theorem opA_store (t : TypeId) (x y : Operand) : opA P e h (.store t x y) = stA (stR P t (opd e x) (opd e y) h) := (rfl)
@[go_sem] theorem bin_add (t : TypeId) (k : IntKind) (a b : Int) : binR P .add t (.pv (.int k a)) (.pv (.int k b)) = some (.pv (.int k (k.wrap (a + b)))) := by simp [binR, binS, sval, binOp, Op.intArith, semPure, cst0, pure]
@[go_sem] theorem bin_sub (t : TypeId) (k : IntKind) (a b : Int) : binR P .sub t (.pv (.int k a)) (.pv (.int k b)) = some (.pv (.int k (k.wrap (a - b)))) := by simp [binR, binS, sval, binOp, Op.intArith, semPure, cst0, pure]
@[go_sem] theorem bin_mul (t : TypeId) (k : IntKind) (a b : Int) : binR P .mul t (.pv (.int k a)) (.pv (.int k b)) = some (.pv (.int k (k.wrap (a * b)))) := by simp [binR, binS, sval, binOp, Op.intArith, semPure, cst0, pure]
@[go_sem] theorem bin_lss (t : TypeId) (k : IntKind) (a b : Int) : binR P .lss t (.pv (.int k a)) (.pv (.int k b)) = some (.pv (.bool (decide (a < b)))) := by simp [binR, binS, sval, binOp, Op.intCmp, semPure, cst0, pure]
@[go_sem] theorem bin_leq (t : TypeId) (k : IntKind) (a b : Int) : binR P .leq t (.pv (.int k a)) (.pv (.int k b)) = some (.pv (.bool (decide (a ≤ b)))) := by simp [binR, binS, sval, binOp, Op.intCmp, semPure, cst0, pure]
@[go_sem] theorem bin_gtr (t : TypeId) (k : IntKind) (a b : Int) : binR P .gtr t (.pv (.int k a)) (.pv (.int k b)) = some (.pv (.bool (decide (b < a)))) := by simp [binR, binS, sval, binOp, Op.intCmp, semPure, cst0, pure]
@[go_sem] theorem bin_geq (t : TypeId) (k : IntKind) (a b : Int) : binR P .geq t (.pv (.int k a)) (.pv (.int k b)) = some (.pv (.bool (decide (b ≤ a)))) := by simp [binR, binS, sval, binOp, Op.intCmp, semPure, cst0, pure]
@[go_sem] theorem bin_eql (t : TypeId) (k : IntKind) (a b : Int) : binR P .eql t (.pv (.int k a)) (.pv (.int k b)) = some (.pv (.bool (decide (a = b)))) := by
  simp [binR, binS, sval, binOp, Op.intCmp, semPure, cst0, pure, Bool.beq_eq_decide_eq]
@[go_sem] theorem bin_neq (t : TypeId) (k : IntKind) (a b : Int) : binR P .neq t (.pv (.int k a)) (.pv (.int k b)) = some (.pv (.bool (!decide (a = b)))) := by
  simp [binR, binS, sval, binOp, Op.intCmp, semPure, cst0, pure, bne, Bool.beq_eq_decide_eq]
theorem bytes_eq (a b : ByteArray) : (a.toList == b.toList) = decide (a = b) := by
  rw [Bool.eq_iff_iff]
  simp only [beq_iff_eq, decide_eq_true_eq, ByteArray.toList_eq]
  constructor
  · intro h
    cases a; cases b
    simp only [Array.toList_inj] at h
    rw [h]
  · intro h; rw [h]
@[go_sem] theorem bin_eqlS (t : TypeId) (a b : ByteArray) : binR P .eql t (.pv (.str a)) (.pv (.str b)) = some (.pv (.bool (decide (a = b)))) := by
  simp [binR, binS, sval, binOp, Op.stringOp, semPure, cst0, pure, bytes_eq]
@[go_sem] theorem bin_neqS (t : TypeId) (a b : ByteArray) : binR P .neq t (.pv (.str a)) (.pv (.str b)) = some (.pv (.bool (!decide (a = b)))) := by
  simp [binR, binS, sval, binOp, Op.stringOp, semPure, cst0, pure, bytes_eq]
theorem bin_addS (t : TypeId) (a b : ByteArray) (h : a.size + b.size ≤ 9223372036854775807) : binR P .add t (.pv (.str a)) (.pv (.str b)) = some (.pv (.str (a ++ b))) := by
  have : ¬ (9223372036854775807 : Int) < (a.size : Int) + (b.size : Int) := by omega
  simp [binR, binS, sval, binOp, Op.stringOp, semPure, cst0, pure, this]
theorem bin_rem (t : TypeId) (k : IntKind) (a b : Int) (hb : b ≠ 0) : binR P .rem t (.pv (.int k a)) (.pv (.int k b)) = some (.pv (.int k (a.tmod b))) := by
  simp [binR, binS, sval, binOp, Op.intDiv, semPure, cst0, pure, hb]
theorem bin_quo (t : TypeId) (k : IntKind) (a b : Int) (hb : b ≠ 0) : binR P .quo t (.pv (.int k a)) (.pv (.int k b)) = some (.pv (.int k (k.wrap (a.tdiv b)))) := by
  simp [binR, binS, sval, binOp, Op.intDiv, semPure, cst0, pure, hb]
@[go_sem] theorem bin_eqlB (t : TypeId) (a b : Bool) : binR P .eql t (.pv (.bool a)) (.pv (.bool b)) = if boolT P t = true then some (.pv (.bool (a == b))) else none := (rfl)
@[go_sem] theorem bin_neqB (t : TypeId) (a b : Bool) : binR P .neq t (.pv (.bool a)) (.pv (.bool b)) = if boolT P t = true then some (.pv (.bool (!(a == b)))) else none := (rfl)
@[go_sem] theorem un_not (b : Bool) : unR .not (.pv (.bool b)) = some (.pv (.bool (!b))) := (rfl)
@[go_sem] theorem un_neg (k : IntKind) (b : Int) : unR .neg (.pv (.int k b)) = some (.pv (.int k (k.wrap (- b)))) := by simp [unR, sval, Op.unary, Op.intArith, semPure, cst0, pure]
end
end Go.Proofs.YtahamnipffckhaaDoor
