/-
  '==' of instructions, as the machine reckons it.
-/
import Derived.Test.YtiaojefhbhodiaaW1
import Derived.Laws.StructEq
set_option linter.unusedVariables false
namespace Go.Proofs.Ytiaojefhbhodiaa
open Go.RowKit
section
variable {P : Program} {d : Nat} {xs ys : Array Value} {f : Field} {fs : List Field} {a b : Value} {r s : Bool} {w : World}
theorem eqs_cons (hn : (f.name == "_") = false) (ha : (part f.type xs f.offset).run P w = .ok a w) (hb : (part f.type ys f.offset).run P w = .ok b w) (he : (Op.equalIn d f.type a b).run P w = .ok r w)
    (hr : r = true → (Op.eqFields d xs ys fs).run P w = .ok s w) (hs : r = false → s = false) : (Op.eqFields d xs ys (f :: fs)).run P w = .ok s w := by
  have hn' : f.name ≠ "_" := by simpa using hn
  rw [Op.eqFields]
  simp only [if_pos hn', Sem.run_bind, ha, hb, he, Result.andThen_ok]
  cases r
  · simp [hs rfl]
  · simpa using hr rfl
theorem eqs_nil : (Op.eqFields d xs ys []).run P w = .ok true w := by simp [Op.eqFields]
theorem eqs_struct {t : TypeId} {fs : Array Field} (hu : P.underlying t = some (.struct fs)) (hp : P.stoodInHeld t = false) (h : (Op.eqFields d xs ys fs.toList).run P w = .ok r w) : (Op.equalIn (d + 1) t (.agg xs) (.agg ys)).run P w = .ok r w := by
  have hf : P.fieldsOf t = fs := by simp [Program.fieldsOf, hu]
  rw [run_equalIn_struct (P := P) w d t xs ys (by rw [hf]; exact hu) hp, hf]
  exact h
end

theorem eqTac (d : Nat) (w : World) (p1 p2 p3 p4 p5 p6 p7 p8 s1 s2 s3 s4 s5 s6 s7 s8 : Int) :
    (Op.equalIn (d + 2) 27 (.agg #[.int .i64 p1, .int .i64 p2, .int .i64 p3, .int .i64 p4, .int .i64 p5, .int .i64 p6, .int .i64 p7, .int .u32 p8]) (.agg #[.int .i64 s1, .int .i64 s2, .int .i64 s3, .int .i64 s4, .int .i64 s5, .int .i64 s6, .int .i64 s7, .int .u32 s8])).run Try.prog w
      = .ok (decide ((⟨p1, p2, p3, p4, p5, p6, p7, p8⟩ : Tac) = ⟨s1, s2, s3, s4, s5, s6, s7, s8⟩)) w := by
  refine eqs_struct Try.underlying27 (by kernel_rfl) ?_
  refine eqs_cons (r := p1 == s1) (by rfl) (by go_simp; rfl) (by go_simp; rfl) (by go_simp) (fun h1 => ?_) (fun h => by simp at h; simp [h])
  refine eqs_cons (r := p2 == s2) (by rfl) (by go_simp; rfl) (by go_simp; rfl) (by go_simp) (fun h2 => ?_) (fun h => by simp at h; simp [h])
  refine eqs_cons (r := p3 == s3) (by rfl) (by go_simp; rfl) (by go_simp; rfl) (by go_simp) (fun h3 => ?_) (fun h => by simp at h; simp [h])
  refine eqs_cons (r := p4 == s4) (by rfl) (by go_simp; rfl) (by go_simp; rfl) (by go_simp) (fun h4 => ?_) (fun h => by simp at h; simp [h])
  refine eqs_cons (r := p5 == s5) (by rfl) (by go_simp; rfl) (by go_simp; rfl) (by go_simp) (fun h5 => ?_) (fun h => by simp at h; simp [h])
  refine eqs_cons (r := p6 == s6) (by rfl) (by go_simp; rfl) (by go_simp; rfl) (by go_simp) (fun h6 => ?_) (fun h => by simp at h; simp [h])
  refine eqs_cons (r := p7 == s7) (by rfl) (by go_simp; rfl) (by go_simp; rfl) (by go_simp) (fun h7 => ?_) (fun h => by simp at h; simp [h])
  refine eqs_cons (r := p8 == s8) (by rfl) (by go_simp; rfl) (by go_simp; rfl) (by go_simp) (fun h8 => ?_) (fun h => by simp at h; simp [h])
  have e : decide ((⟨p1, p2, p3, p4, p5, p6, p7, p8⟩ : Tac) = ⟨s1, s2, s3, s4, s5, s6, s7, s8⟩) = true := by simp_all
  rw [e]
  exact eqs_nil
end Go.Proofs.Ytiaojefhbhodiaa
