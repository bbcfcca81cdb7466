/- '==' between errors, whatever the program. -/
import Derived.LaidEql
namespace Go.Proofs.YtmjdlofkjjofcaaDoor
open Go
section
variable {P : Program} (w : World)

theorem equalIn_iface_int (d : Nat) {ti tn : TypeId} {ms : Array (String × TypeId)} {i : TypeInfo} {k : IntKind} (a b : Int)
    (hi : P.underlying ti = some (.interface ms)) (hn : P.underlying tn = some (.int k)) (hinfo : P.info? tn = some i) (hcomp : i.comparable = true) :
    (Op.equalIn (d + 2) ti (.iface tn (.int k a)) (.iface tn (.int k b))).run P w = .ok (a == b) w := by
  simp [Op.equalIn, run_underlying hi, run_underlying hn, typeInfo, hinfo, hcomp]
theorem equalIn_iface_other (d : Nat) {ti ta tb : TypeId} {ms : Array (String × TypeId)} (a b : Value) (hi : P.underlying ti = some (.interface ms)) (hne : ta ≠ tb) :
    (Op.equalIn (d + 1) ti (.iface ta a) (.iface tb b)).run P w = .ok false w := by
  simp [Op.equalIn, run_underlying hi, hne]
/-- Two interface values of one integer type: as the numbers are. -/
theorem eql_iface_int {ti tn : TypeId} {ms : Array (String × TypeId)} {i : TypeInfo} {k : IntKind} (a b : Int)
    (hi : P.underlying ti = some (.interface ms)) (hn : P.underlying tn = some (.int k)) (hinfo : P.info? tn = some i) (hcomp : i.comparable = true) :
    (binOp .eql ti (.iface tn (.int k a)) (.iface tn (.int k b))).run P w = .ok (.bool (a == b)) w := by
  simp only [binOp]
  simp [Op.equal, Op.maxDepth, equalIn_iface_int w 9998 a b hi hn hinfo hcomp]
/-- Of two types: never. -/
theorem eql_iface_other {ti ta tb : TypeId} {ms : Array (String × TypeId)} (a b : Value) (hi : P.underlying ti = some (.interface ms)) (hne : ta ≠ tb) :
    (binOp .eql ti (.iface ta a) (.iface tb b)).run P w = .ok (.bool false) w := by
  simp only [binOp]
  simp [Op.equal, Op.maxDepth, equalIn_iface_other w 9999 a b hi hne]
theorem least_some {l : List String} (h : l ≠ []) : ∃ m, Instr.least l = some m := by
  cases l with
  | nil => exact absurd rfl h
  | cons a l => exact ⟨_, rfl⟩
theorem least_or (p : String → Bool) (f : String → String) (ms : List String) (hl : ms ≠ []) : ∃ m, (Instr.least (ms.partition p).2 <|> Instr.least ((ms.partition p).1.map f)) = some m := by
  rw [List.partition_eq_filter_filter]
  by_cases he : ms.filter (not ∘ p) = []
  · have hu : (ms.filter p).map f ≠ [] := by
      intro h2
      have h3 : ms.filter p = [] := by simpa using h2
      cases ms with
      | nil => exact hl rfl
      | cons a r =>
        cases hc : p a <;> simp [hc] at he h3
    obtain ⟨m, hm⟩ := least_some hu
    exact ⟨m, by simp only [he, hm]; rfl⟩
  · obtain ⟨m, hm⟩ := least_some he
    exact ⟨m, by simp only [hm]; rfl⟩
/-- A type that lacks a method: which one it is does not matter. -/
theorem missing_some (want : Array (String × TypeId)) (got : Array Method) (h : (want.toList.filter fun (x : String × TypeId) => !got.any fun m => m.name == x.1 && m.sig == x.2).isEmpty = false) : ∃ m, Instr.missingMethod want got = some m := by
  refine least_or _ _ ((want.toList.filter fun (x : String × TypeId) => !got.any fun m => m.name == x.1 && m.sig == x.2).map (·.1)) ?_
  intro h2
  have h3 : (want.toList.filter fun (x : String × TypeId) => !got.any fun m => m.name == x.1 && m.sig == x.2) = [] := by simpa using h2
  rw [h3] at h
  simp at h
theorem assert_fails {xt asserted t : TypeId} {want : Array (String × TypeId)} {i : TypeInfo} {z v : Value} (hu : P.underlying asserted = some (.interface want)) (ht : P.info? t = some i)
    (hm : (want.toList.filter fun (x : String × TypeId) => !i.methods.any fun m => m.name == x.1 && m.sig == x.2).isEmpty = false) (hz : ∀ w, (zeroValue asserted).run P w = .ok z w) :
    (Instr.typeAssert (.iface t v) xt asserted true).run P w = .ok (.tuple #[z, .bool false]) w := by
  obtain ⟨m, hm⟩ := missing_some want i.methods hm
  simp [Instr.typeAssert, run_underlying hu, typeInfo, ht, hm, hz]
/-- A value is not nil; nil is. -/
theorem equalIn_iface_nil (d : Nat) {ti ta : TypeId} {ms : Array (String × TypeId)} (a : Value) (hi : P.underlying ti = some (.interface ms)) : (Op.equalIn (d + 1) ti (.iface ta a) .nilIface).run P w = .ok false w := by
  simp [Op.equalIn, run_underlying hi]
theorem equalIn_nil_nil (d : Nat) {ti : TypeId} {ms : Array (String × TypeId)} (hi : P.underlying ti = some (.interface ms)) : (Op.equalIn (d + 1) ti .nilIface .nilIface).run P w = .ok true w := by
  simp [Op.equalIn, run_underlying hi]
theorem eql_iface_nil {ti ta : TypeId} {ms : Array (String × TypeId)} (a : Value) (hi : P.underlying ti = some (.interface ms)) : (binOp .eql ti (.iface ta a) .nilIface).run P w = .ok (.bool false) w := by
  simp only [binOp]
  simp [Op.equal, Op.maxDepth, equalIn_iface_nil w 9999 a hi]
theorem neq_iface_nil {ti ta : TypeId} {ms : Array (String × TypeId)} (a : Value) (hi : P.underlying ti = some (.interface ms)) : (binOp .neq ti (.iface ta a) .nilIface).run P w = .ok (.bool true) w := by
  simp only [binOp]
  simp [Op.equal, Op.maxDepth, equalIn_iface_nil w 9999 a hi]
theorem eql_nil_nil {ti : TypeId} {ms : Array (String × TypeId)} (hi : P.underlying ti = some (.interface ms)) : (binOp .eql ti .nilIface .nilIface).run P w = .ok (.bool true) w := by
  simp only [binOp]
  simp [Op.equal, Op.maxDepth, equalIn_nil_nil w 9999 hi]
theorem equalIn_nil_iface (d : Nat) {ti ta : TypeId} {ms : Array (String × TypeId)} (a : Value) (hi : P.underlying ti = some (.interface ms)) : (Op.equalIn (d + 1) ti .nilIface (.iface ta a)).run P w = .ok false w := by
  simp [Op.equalIn, run_underlying hi]
theorem eql_nil_iface {ti ta : TypeId} {ms : Array (String × TypeId)} (a : Value) (hi : P.underlying ti = some (.interface ms)) : (binOp .eql ti .nilIface (.iface ta a)).run P w = .ok (.bool false) w := by
  simp only [binOp]
  simp [Op.equal, Op.maxDepth, equalIn_nil_iface w 9999 a hi]
theorem neq_nil_nil {ti : TypeId} {ms : Array (String × TypeId)} (hi : P.underlying ti = some (.interface ms)) : (binOp .neq ti .nilIface .nilIface).run P w = .ok (.bool false) w := by
  simp only [binOp]
  simp [Op.equal, Op.maxDepth, equalIn_nil_nil w 9999 hi]
end
end Go.Proofs.YtmjdlofkjjofcaaDoor
