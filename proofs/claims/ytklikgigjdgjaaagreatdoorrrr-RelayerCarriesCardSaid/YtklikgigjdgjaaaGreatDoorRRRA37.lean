/- Function values that write into variables of their maker. -/
import Derived.Test.YtklikgigjdgjaaaGreatDoorRRRA36
namespace Go.Proofs.YtklikgigjdgjaaaGreatDoorRRR
open Go Go.RowKit Go.Proofs
set_option linter.unusedVariables false
def caps0 (G : FP) (N : List Ent) : List Operand → List Value → Prop
  | [], [] => True
  | x :: xs, p :: ps => OpndOk G N x (eqVP p) ∧ caps0 G N xs ps
  | _, _ => False
theorem caps0_eval {G : FP} {N : List Ent} {Φ : Pub} {a : Act} {w : World} {f : List (List Nat)} (hG : G.p Φ) (hN : HoldL Φ a.tmps w N f) : ∀ {xs : List Operand} {ps : List Value}, caps0 G N xs ps → xs.map a.eval = ps
  | [], [], _ => rfl
  | x :: xs, p :: ps, h => by
    have h1 : a.eval x = p := h.1 Φ a w f hG hN
    rw [List.map_cons, h1, caps0_eval hG hN h.2]
  | [], _ :: _, h => h.elim
  | _ :: _, [], h => h.elim
section ops
variable {P : Program} {G : FP} {N : List Ent} {d : Nat} {ty : TypeId} {pos : String} {af : Array Edge} {gd : Option (Nat × Bool)}
theorem op_makeClo {f : FuncId} {xs : List Operand} {ps : List Value} (hx : caps0 G N xs ps) : OpOk P G ⟨some d, .makeFunc (.func f) #[] xs.toArray, ty, pos, af, gd⟩ N [] (fun _ => [.slot d (eqVP (.func (.func f) #[] ps.toArray))]) :=
  OpOk.val fun Φ a w fp _ hG hN => ⟨.func (.func f) #[] (xs.map a.eval).toArray, by simp [execOp, Instr.makeFunc], by rw [caps0_eval hG hN hx]; rfl⟩
theorem args_caps {Φ : Pub} : ∀ (ps : List Value), ArgsL Φ (ps.map eqVP) ps
  | [] => trivial
  | p :: ps => ⟨rfl, args_caps ps⟩
theorem op_callclo {f : Operand} {fi : FuncId} {ps : List Value} {xs : List Operand} {tys : Array TypeId} {args : List VP} {pre post : List RP} {res : VP} (hcall : ∀ args w, (callFunc fi args).run P w = .ok (.enter fi args) w) (hf : OpndOk G N f (eqVP (.func (.func fi) #[] ps.toArray)))
    (hc : CallOk P G fi (args ++ ps.map eqVP) pre (fun _ => post) res) (hx : OpndsOk G N xs args) :
    OpOk P G ⟨some d, .call ⟨.value f, xs.toArray, tys⟩, ty, pos, af, gd⟩ N (pre.map .res) (fun _ => .slot d res :: post.map .res) := by
  intro Φ a w fN fC h1 h2 h3 h4 h5 h6 h7 K Q hK
  have hargs := hx.eval h2 h3
  have hv : a.eval f = .func (.func fi) #[] ps.toArray := hf Φ a w fN h2 h3
  have hrun : (execOp a.eval ⟨some d, .call ⟨.value f, xs.toArray, tys⟩, ty, pos, af, gd⟩).run P w = .ok (.enter fi (xs.map a.eval ++ ps).toArray) w := by
    simp [execOp, resolve, hv, Deferred.ofValue, invoke, hcall]
  have hres := HoldL.res_of h4
  rw [List.nodup_append] at h5
  have hcl := hc Φ w (xs.map a.eval ++ ps) fC h1 h2 (hargs.append (args_caps ps)) hres h5.2.1 (fun b hb => h6 b (by simp [hb]))
  unfold Oper.wp
  rw [hrun, Oper.upon_enter]
  refine hcl.mono fun e w' hq => ?_
  obtain ⟨v, Φ', fs', rfl, q1, q2, q3, q4, q5, q6⟩ := hq
  exact hK v w' Φ' ([] :: fs') q1 q2 ⟨⟨rfl, v, put_get a v d (h7 d rfl), q3⟩, HoldL.of_res q4⟩ (by simpa using q5) (by simpa using q6)
/-- A variable that holds a growing slice, read. -/
theorem op_load_cell {α : Type} {T T0 E : TypeId} {x : Operand} {p q : Value} {sz : Nat} {ck : α → List Ck} {xs : List α} (j i : Nat) (ha : ∀ w, (isAgg T).run P w = .ok false w)
    (hx : OpndOk G N x (lpVP p 0)) (he : nthD .none N j = .res (lb p T0 ([] ++ [one (eqVP q)] ++ []))) (hq : nthD .none N i = .res (acc q E sz ck xs)) :
    OpOk P G ⟨some d, .load T x, ty, pos, af, gd⟩ N [] (fun _ => [.slot d (slVP ck xs)]) :=
  OpOk.val fun Φ a w f _ hG hN => by
    obtain ⟨b, hp, hv⟩ := hx Φ a w f hG hN
    obtain ⟨g, b', cs, hp', _, hb, hL, _⟩ := hN.res j he
    have : b' = b := by rw [hp] at hp'; simpa using hp'.symm
    subst this
    obtain ⟨g2, hr⟩ := hN.res i hq
    obtain ⟨xs', ys, zs, rfl, h1, h2, h3⟩ := take_mid hL
    obtain ⟨y1, y2, rfl, ⟨v, rfl, _, hV⟩, h4⟩ := h2
    have hV : v = q := hV
    subst hV
    refine ⟨v, ?_, acc_sl hr⟩
    simp only [execOp, hv]
    have h1 : xs' = [] := h1
    subst h1
    rw [Sem.run_bind, run_loadAt_one ha (v := v) (by rw [cell_of hb]; simp)]
    rfl
/-- An entry of a map's literal. -/
theorem op_insert {t : TypeId} {x y u : Operand} {C : List Ent} {Gv : Value → List Ent} (h : OpOk P G ⟨none, .mapUpdate t x y u, ty, pos, af, gd⟩ N C Gv) : OpOk P G ⟨none, .insert t x y u, ty, pos, af, gd⟩ N C Gv := by
  intro Φ a w fN fC h1 h2 h3 h4 h5 h6 h7 K Q hK
  exact h Φ a w fN fC h1 h2 h3 h4 h5 h6 h7 K Q hK
end ops
end Go.Proofs.YtklikgigjdgjaaaGreatDoorRRR
