/- What is valid: lists of texts, flags, fields, entries, catalogs; plain. -/
import Derived.Test.YtgnchicipmomlaaGreatDoorPK04
import Derived.Test.YtgnchicipmomlaaGreatDoorPK11
import Derived.Test.YtgnchicipmomlaaGreatDoorPK12
namespace Go.Proofs.YtgnchicipmomlaaGreatDoor
set_option maxRecDepth 100000

def TxOk (l : List ByteArray) : Prop := ∀ i (h : i < l.length), textL (bys l[i]) = true
def FlOk (l : List ByteArray) : Prop := ∀ i (h : i < l.length), nameL (bys l[i]) = true ∧ (0 < i → bO (l[i - 1]) l[i] = true)
def FdOk (l : List Fd) : Prop := ∀ i (h : i < l.length), nameL (bys l[i].1) = true ∧ textL (bys l[i].2) = true ∧ (0 < i → bO (l[i - 1]).1 (l[i]).1 = true)
instance (l : List ByteArray) : Decidable (TxOk l) := by unfold TxOk; infer_instance
instance (l : List ByteArray) : Decidable (FlOk l) := by unfold FlOk; infer_instance
instance (l : List Fd) : Decidable (FdOk l) := by unfold FdOk; infer_instance
/-- At most 20 strings, all of which are texts. -/
def textsP (l : List ByteArray) : Bool := decide (l.length ≤ 20) && decide (TxOk l)
def flagsP (l : List ByteArray) : Bool := decide (FlOk l) && decide (l.length ≤ 20)
def fieldsP (l : List Fd) : Bool := decide (FdOk l) && decide (l.length ≤ 20)
/-- A valid entry. -/
def validE (x : Ep) : Bool :=
  !decide (x.id.size = 0) && decide (x.id.size ≤ 200) && textL (bys x.id) && decide (0 ≤ x.st ∧ x.st ≤ 4) && textL (bys x.src) && textL (bys x.tgt) && textsP x.com && flagsP x.fl && fieldsP x.fd
/-- All entries are valid and no ID stands twice. -/
def EsOk (l : List Ep) : Prop := ∀ i (h : i < l.length), validE l[i] = true ∧ ∀ j (_hj : j < i), (l[j]).id ≠ (l[i]).id
instance (l : List Ep) : Decidable (EsOk l) := by unfold EsOk; infer_instance
def headP (c : Cp) : Bool := tagL (bys c.tag) && textsP c.com && fieldsP c.fd
/-- A valid catalog. -/
def validC (c : Cp) : Bool := headP c && decide (c.es.length ≤ 1000) && decide (EsOk c.es)
end Go.Proofs.YtgnchicipmomlaaGreatDoor
