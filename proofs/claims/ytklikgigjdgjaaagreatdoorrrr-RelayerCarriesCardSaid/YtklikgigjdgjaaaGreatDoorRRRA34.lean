/- Structs that are handed back with slices of one's own in them. -/
import Derived.Test.YtklikgigjdgjaaaGreatDoorRRRA33
namespace Go.Proofs.YtklikgigjdgjaaaGreatDoorRRR
open Go Go.RowKit Go.Proofs
set_option linter.unusedVariables false
/-- A cell of a struct's value. -/
def aggAt (k : Nat) (v : Value) : Value := match v with | .agg cs => cs[k]?.getD .nilIface | _ => .nilIface
theorem aggAt_of {Φ : Pub} {v q : Value} {cs : List Value} {k : Nat} {pre post : List Ck} (hv : v = .agg cs.toArray) (hL : Lrel Φ cs (pre ++ [one (eqVP q)] ++ post)) (hk : lens pre = k) : aggAt k v = q := by
  obtain ⟨xs, ys, zs, rfl, h1, h2, h3⟩ := take_mid hL
  obtain ⟨y1, y2, rfl, ⟨u, rfl, _, hV⟩, h4⟩ := h2
  have hV : u = q := hV
  subst hV
  subst hv
  unfold aggAt
  rw [← hk, ← h1.len]
  simp
theorem ret1w {P : Program} {fn : Func} {r : ResultVar} {c : Cx} {l : List Ent} {a : Act} {w : World} {L : List Ck} {W : Value → VP} (h : SatL c l a w) (hr : fn.results = #[r]) (hV : ROk P c l r (aggVP L)) (js : List Nat) (Rs : List RP) (post : Value → List RP) (hd : distinct js = true) (hlt : (js.all fun j => decide (j < l.length)) = true) (hR : Rs.map .res = js.map (nthD .none l))
    (hW : ∀ Φ v, (aggVP L).p Φ v → W v = aggVP L ∧ post v = Rs) : RetOk P fn c anyVP (fun v => RP.val (W v) v :: post v) a w := by
  obtain ⟨Φ, fp, h⟩ := h
  obtain ⟨v, h1, h2⟩ := hV a w Φ fp h
  obtain ⟨fs, q1, q2, q3⟩ := h.resl js hd (fun j hj => by simpa using (List.all_eq_true.1 hlt) j hj) Rs hR
  obtain ⟨e1, e2⟩ := hW Φ v h2
  refine ⟨h.defers, v, Φ, [] :: fs, ?_, h.step, h.pub, trivial, ⟨⟨rfl, by rw [e1]; exact h2⟩, by rw [e2]; exact q1⟩, by simpa using q2, by simpa using q3⟩
  rw [results_rval, hr]
  simp [h1]
theorem op_callw {P : Program} {G : FP} {N : List Ent} {d : Nat} {ty : TypeId} {pos : String} {af : Array Edge} {gd : Option (Nat × Bool)} {f : FuncId} {xs : List Operand} {tys : Array TypeId} {args : List VP} {pre : List RP} {W : Value → VP} {post : Value → List RP} (hcall : ∀ args w, (callFunc f args).run P w = .ok (.enter f args) w)
    (hc : CallOk P G f args pre (fun v => RP.val (W v) v :: post v) anyVP) (hx : OpndsOk G N xs args) :
    OpOk P G ⟨some d, .call ⟨.value (.func f), xs.toArray, tys⟩, ty, pos, af, gd⟩ N (pre.map .res) (fun v => .slot d (W v) :: (post v).map .res) := by
  intro Φ a w fN fC h1 h2 h3 h4 h5 h6 h7 K Q hK
  refine op_callv hcall hc hx Φ a w fN fC h1 h2 h3 h4 h5 h6 h7 K Q fun v w' Φ' fG q1 q2 q3 q4 q5 => ?_
  match fG, q3 with
  | f1 :: f2 :: fs, q3 =>
    obtain ⟨⟨e1, u, hu, e2⟩, ⟨e3, e4⟩, q⟩ := q3
    subst e1; subst e3
    have e2 : u = v := e2
    subst e2
    exact hK u w' Φ' ([] :: fs) q1 q2 ⟨⟨rfl, u, hu, e4⟩, q⟩ (by simpa using q4) (by simpa using q5)
theorem op_max3 {P : Program} {G : FP} {N : List Ent} {d : Nat} {ty : TypeId} {pos : String} {af : Array Edge} {gd : Option (Nat × Bool)} {k : IntKind} {x y z : Operand} {m n o : Int} {tys : Array TypeId} (hx : OpndOk G N x (intVP k m)) (hy : OpndOk G N y (intVP k n)) (hz : OpndOk G N z (intVP k o)) :
    OpOk P G ⟨some d, .call ⟨.builtin .max, #[x, y, z], tys⟩, ty, pos, af, gd⟩ N [] (fun _ => [.slot d (intVP k (if (if m < n then n else m) < o then o else (if m < n then n else m)))]) :=
  OpOk.val fun Φ a w f _ hG hN => by
    obtain ⟨h1, h2⟩ := hx Φ a w f hG hN
    obtain ⟨h3, h4⟩ := hy Φ a w f hG hN
    obtain ⟨h5, h6⟩ := hz Φ a w f hG hN
    refine ⟨.int k (if (if m < n then n else m) < o then o else (if m < n then n else m)), ?_, rfl, by by_cases q : m < n <;> simp only [q, if_true, if_false] <;> split <;> assumption⟩
    simp [execOp, resolve, h1, h3, h5, invoke, builtin, Builtin.max_, Builtin.max2]
theorem op_len_own {P : Program} {G : FP} {N : List Ent} {d : Nat} {ty : TypeId} {pos : String} {af : Array Edge} {gd : Option (Nat × Bool)} {α : Type} {c : α → List Ck} {xs : List α} {t e T : TypeId} {sz : Nat} {x : Operand} {v : Value} (j : Nat) (ht : P.underlying t = some (.slice e)) (hx : OpndOk G N x (eqVP v)) (hf : nthD .none N j = .res (own v T sz c xs)) :
    OpOk P G ⟨some d, .call ⟨.builtin .len, #[x], #[t]⟩, ty, pos, af, gd⟩ N [] (fun _ => [.slot d (intVP .i64 xs.length)]) :=
  OpOk.val fun Φ a w f _ hG hN => by
    have hv : a.eval x = v := hx Φ a w f hG hN
    obtain ⟨g, hl, ⟨rfl, rfl, _⟩ | ⟨b, cap, cs, zs, rfl, _⟩⟩ := hN.res j hf
    · exact ⟨goInt 0, by simp [execOp, hv, resolve, invoke, builtin, Builtin.len_, run_underlying ht], rfl, len_in hl⟩
    · exact ⟨goInt xs.length, by simp [execOp, hv, resolve, invoke, builtin, Builtin.len_, run_underlying ht], rfl, len_in hl⟩
end Go.Proofs.YtklikgigjdgjaaaGreatDoorRRR
