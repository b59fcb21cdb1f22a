/- Strings copied into arrays of bytes; the least and the greatest of numbers. -/
import Derived.Test.YtklikgigjdgjaaaGreatDoorRRRA30
import Derived.Lib.BufferWrite
namespace Go.Proofs.YtklikgigjdgjaaaGreatDoorRRR
open Go Go.RowKit Go.Proofs
set_option linter.unusedVariables false
set_option linter.unusedSimpArgs false

theorem run_copy_str {P : Program} (w : World) (dT sT ty elem : TypeId) (g o dLen dCap : Nat) (l : List UInt8) (cur : Array Value) (t : TypeId)
    (hu : P.underlying dT = some (.slice elem)) (hs : (P.info? elem).map (·.size) = some 1) (hg : w.heap[g]? = some (.cells cur t (0, 0))) (hfit : o + min l.length dLen ≤ cur.size) :
    (Builtin.copy_ #[dT, sT] ty #[.slice (some ⟨g, o, none⟩) dLen dCap, .string ⟨l.toArray⟩]).run P w =
      .ok (goInt (min l.length dLen : Nat)) (w.setRow g (cur.toList.take o ++ (l.take (min l.length dLen)).map byteC ++ cur.toList.drop (o + min l.length dLen)).toArray) := by
  have hlen : ((l.take (min l.length dLen)).map byteC).length = min l.length dLen := by simp
  have hone : ∀ v ∈ (l.take (min l.length dLen)).map byteC, v.oneCell' = true := by
    intro v hv
    obtain ⟨b, _, rfl⟩ := List.mem_map.1 hv
    rfl
  have hst := run_storeCells_at P g o t ((l.take (min l.length dLen)).map byteC) 0 cur w hg (by rw [hlen]; simpa using hfit) hone
  rw [hlen] at hst
  simp only [Nat.add_zero] at hst
  cases hq : P.info? elem with
  | none => simp [hq] at hs
  | some i =>
    have hsz : (⟨l.toArray⟩ : ByteArray).size = l.length := by simp [ByteArray.size]
    have hmin : Nat.min l.length dLen = min l.length dLen := rfl
    simp only [Builtin.copy_, Sem.run_bind, run_underlying hu, Result.andThen_ok, Builtin.lenOf, Builtin.firstCells, sizeOf, typeInfo, hq, Sem.run_pure, List.getElem?_toArray, List.getElem?_cons_zero, List.getElem?_cons_succ, hsz, hmin]
    have hc : ((((⟨l.toArray⟩ : ByteArray).extract 0 (min l.length dLen)).data.map fun b => Value.int .u8 b.toNat)).toList = (l.take (min l.length dLen)).map byteC := by
      simp [byteC]
      rfl
    simp [run_underlying hu, Builtin.lenOf, Builtin.firstCells, sizeOf, typeInfo, hq, hsz, hmin, hc]
    simp only [List.map_take] at hst
    rw [show (fun b : UInt8 => Value.int IntKind.u8 (b.toNat : Int)) = byteC from rfl, hst]
    simp [Result.andThen]
section ops
variable {P : Program} {G : FP} {N : List Ent} {d : Nat} {ty : TypeId} {pos : String} {af : Array Edge} {gd : Option (Nat × Bool)}
theorem op_copy_str {T0 e t1 t2 : TypeId} {x y : Operand} {p : Value} {n k m c i : Nat} {l s : List UInt8} (pre post : List Ck) (hu : P.underlying t1 = some (.slice e)) (hs : (P.info? e).map (·.size) = some 1)
    (hx : OpndOk G N x (lslVP p k m c)) (hy : OpndOk G N y (strVP s)) (h1 : k = lens pre + i) (hm : i + m ≤ n) (hle : n ≤ mxl) :
    OpOk P G ⟨some d, .call ⟨.builtin .copy, #[x, y], #[t1, t2]⟩, ty, pos, af, gd⟩ N [.res (lb p T0 (pre ++ [bytesCk n l] ++ post))]
      (fun _ => [.slot d (intVP .i64 (min s.length m : Nat)), .res (lb p T0 (pre ++ [bytesCk n (l.take i ++ s.take (min s.length m) ++ l.drop (i + min s.length m))] ++ post))]) := by
  intro Φ a w fN fC q1 q2 q3 q4 q5 q6 q7 K Q hK
  match fC, q4 with
  | [f], ⟨⟨b, cs, hp, hf, hb, hL, hn⟩, _⟩ =>
    subst hf
    obtain ⟨b1, hp1, hv1⟩ := hx Φ a w fN q2 q3
    obtain ⟨hv2, _⟩ := hy Φ a w fN q2 q3
    obtain rfl : b1 = b := by rw [hp] at hp1; simpa using hp1.symm
    obtain ⟨xs, ys, zs, rfl, r1, r2, r3⟩ := take_mid hL
    obtain ⟨y1, y2, rfl, ⟨hl, rfl⟩, hy2⟩ := r2
    have hy2 : y2 = [] := hy2
    subst hy2
    have hxs := r1.len
    have hmle : min s.length m ≤ m ∧ min s.length m ≤ s.length := by omega
    have hrun := run_copy_str (P := P) w t1 t2 ty e b1 k m c s (xs ++ (l.map byteC ++ []) ++ zs).toArray T0 hu hs hb (by simp; omega)
    generalize min s.length m = mm at *
    have hrow : ((xs ++ (l.map byteC ++ []) ++ zs).toArray.toList.take k ++ (s.take mm).map byteC ++ (xs ++ (l.map byteC ++ []) ++ zs).toArray.toList.drop (k + mm)) = xs ++ ((l.take i ++ s.take mm ++ l.drop (i + mm)).map byteC ++ []) ++ zs := by
      subst h1
      rw [← hxs]
      simp only [List.append_nil, List.append_assoc, List.map_append, List.map_take, List.map_drop]
      rw [List.take_length_add_append, Nat.add_assoc, List.drop_length_add_append, List.take_append_of_le_length (by simp; omega), List.drop_append_of_le_length (by simp; omega)]
      simp only [List.append_assoc]
    rw [hrow] at hrun
    have hexec : (execOp a.eval ⟨some d, .call ⟨.builtin .copy, #[x, y], #[t1, t2]⟩, ty, pos, af, gd⟩).run P w = .ok (.value (goInt mm)) (w.setRow b1 (xs ++ ((l.take i ++ s.take mm ++ l.drop (i + mm)).map byteC ++ []) ++ zs).toArray) := by
      simp only [execOp, resolve, List.map_toArray, List.map_cons, List.map_nil, hv1, hv2, Sem.run_bind, Sem.run_pure, Result.andThen_ok, invoke, builtin, hrun]
    unfold Oper.wp
    rw [hexec, Oper.upon_value]
    have hmid : Lrel Φ ((l.take i ++ s.take mm ++ l.drop (i + mm)).map byteC ++ []) [bytesCk n (l.take i ++ s.take mm ++ l.drop (i + mm))] := ⟨_, [], rfl, ⟨by simp; omega, rfl⟩, rfl⟩
    have hnb := setRow_heap w b1 (xs ++ (l.map byteC ++ []) ++ zs).toArray (xs ++ ((l.take i ++ s.take mm ++ l.drop (i + mm)).map byteC ++ []) ++ zs).toArray T0 _ hb
    refine hK _ _ Φ [[], [b1]] ⟨rfl, rfl, rfl, by simp, fun c hc' hne => setRow_other w b1 c _ (by simpa using hne), Pub.le_refl _, fun _ _ _ => rfl⟩ ⟨fun c o v e' => by rw [setRow_size]; exact q1.lt c o v e', fun c o v e' => ?_⟩
      ⟨⟨rfl, _, put_get a _ d (q7 d rfl), ⟨rfl, len_in (by omega)⟩⟩, ⟨b1, _, hp, rfl, hnb, (r1.append hmid).append r3, hn⟩, trivial⟩ (by simp) (fun c hc' => ?_)
    · have hne : c ≠ b1 := fun e'' => by rw [e'', hn o] at e'; cases e'
      exact (World.cell?_of_block (w := w) (setRow_other w b1 c _ hne)).trans (q1.cell c o v e')
    · simp at hc'
      subst hc'
      have := q6 c (by simp)
      exact ⟨by rw [setRow_size]; exact this, .inl (by simp)⟩
theorem op_min {k : IntKind} {x y : Operand} {m n : Int} {tys : Array TypeId} (hx : OpndOk G N x (intVP k m)) (hy : OpndOk G N y (intVP k n)) :
    OpOk P G ⟨some d, .call ⟨.builtin .min, #[x, y], tys⟩, ty, pos, af, gd⟩ N [] (fun _ => [.slot d (intVP k (if n < m then n else m))]) :=
  OpOk.val fun Φ a w f _ hG hN => by
    obtain ⟨h1, h2⟩ := hx Φ a w f hG hN
    obtain ⟨h3, h4⟩ := hy Φ a w f hG hN
    refine ⟨.int k (if n < m then n else m), ?_, rfl, by split <;> assumption⟩
    simp [execOp, resolve, h1, h3, invoke, builtin, Builtin.min_, Builtin.min2]
theorem op_max {k : IntKind} {x y : Operand} {m n : Int} {tys : Array TypeId} (hx : OpndOk G N x (intVP k m)) (hy : OpndOk G N y (intVP k n)) :
    OpOk P G ⟨some d, .call ⟨.builtin .max, #[x, y], tys⟩, ty, pos, af, gd⟩ N [] (fun _ => [.slot d (intVP k (if m < n then n else m))]) :=
  OpOk.val fun Φ a w f _ hG hN => by
    obtain ⟨h1, h2⟩ := hx Φ a w f hG hN
    obtain ⟨h3, h4⟩ := hy Φ a w f hG hN
    refine ⟨.int k (if m < n then n else m), ?_, rfl, by split <;> assumption⟩
    simp [execOp, resolve, h1, h3, invoke, builtin, Builtin.max_, Builtin.max2]
end ops
end Go.Proofs.YtklikgigjdgjaaaGreatDoorRRR
