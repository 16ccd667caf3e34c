/-! The document's answers as plain Lean functions on plain data (no program in sight). -/

namespace Pen

/-! ### data -/
structure Plan where
  scopes : Int
  threads : Int
  immortal : Int
  heap : Int
deriving DecidableEq, Inhabited, Repr
structure Extent where
  pos : Int
  size : Int
deriving DecidableEq, Inhabited, Repr
structure Ctl where
  state : Int
  count : Int
  parent : Int
  epoch : Int
deriving DecidableEq, Inhabited, Repr
structure Ref where
  scope : Int
  epoch : Int
  pos : Int
deriving DecidableEq, Inhabited, Repr
structure Head where
  size : Int
  slots : Int
  tag : Int
  done : Bool
  scope : Int
  epoch : Int
deriving DecidableEq, Inhabited, Repr
structure Entry where
  scope : Int
  counted : Bool
deriving DecidableEq, Inhabited, Repr
structure FOp where
  op : Int
  a : Int
  b : Int
deriving DecidableEq, Inhabited, Repr
structure Call where
  op : Int
  r : Int
  h : Int
  v : Int
  a : Int
  b : Int
  c : Int
deriving DecidableEq, Inhabited, Repr
structure Answer where
  code : Int
  n : Int
  said : List Int
deriving DecidableEq, Inhabited, Repr
structure Op where
  thread : Int
  call : Call
  start : Int
  point : Int
  stop : Int
  answer : Answer
deriving DecidableEq, Inhabited, Repr
structure Run where
  call : Call
  pc : Int
  area : Int
  hand : Int
  val : Int
  chain : List Entry
  word : Int
  next : Int
  pos : Int
  top : Int
  list : List Int
  op : Int
  said : List Int
  n : Int
  held : Bool
  done : Bool
  point : Bool
  answer : Answer
deriving DecidableEq, Inhabited, Repr

/-- an int of 64 bits, of whatever number; a word of 64 bits likewise -/
def w64 (n : Int) : Int := (n + 9223372036854775808) % 18446744073709551616 - 9223372036854775808
def u64 (n : Int) : Int := n % 18446744073709551616

/-! ### 3 ctl -/
def ctlRight (c : Ctl) : Bool :=
  decide (0 ≤ c.epoch) && decide (c.epoch ≤ 16777215) &&
  (if c.state = 0 ∨ c.state = 1 then decide (c.count = 0) && decide (c.parent = -1)
   else if c.state = 2 then decide (1 ≤ c.count) && decide (c.count ≤ 7) && (decide (-1 ≤ c.parent) && decide (c.parent < 8))
   else if c.state = 3 then decide (c.count = 0) && (decide (-1 ≤ c.parent) && decide (c.parent < 8))
   else false)
def ctlWord (c : Ctl) : Int := c.state + 4 * c.count + 1024 * (c.parent + 1) + 262144 * c.epoch
def ctlPack (c : Ctl) : Int × Int := if ctlRight c then (ctlWord c, 0) else (0, 1)
def ctlRead (w : Int) : Ctl := ⟨w % 4, w / 4 % 256, w / 1024 % 256 - 1, w / 262144 % 16777216⟩
def ctlUnpack (w : Int) : Ctl × Int :=
  if ctlRight (ctlRead w) && decide (ctlWord (ctlRead w) = w) then (ctlRead w, 0) else (⟨0, 0, 0, 0⟩, 1)
def ctl0 : Ctl := ⟨0, 0, 0, 0⟩
def ctlEnter (c : Ctl) (area : Int) : Ctl × Int :=
  if ctlRight c = false ∨ area < 0 ∨ 8 ≤ area then (ctl0, 1)
  else if c.state = 0 then (ctl0, 11)
  else if c.state = 3 then (ctl0, 10)
  else if c.state = 1 then (⟨2, 1, area, c.epoch⟩, 0)
  else if c.parent ≠ area then (ctl0, 15)
  else if c.count = 7 then (ctl0, 16)
  else ({ c with count := c.count + 1 }, 0)
def ctlLeave (c : Ctl) : Ctl × Int :=
  if ctlRight c = false then (ctl0, 1)
  else if c.state ≠ 2 then (ctl0, 11)
  else if c.count = 1 then ({ c with count := 0, state := 3 }, 0)
  else ({ c with count := c.count - 1 }, 0)
def ctlOpen (c : Ctl) : Ctl × Int :=
  if ctlRight c = false then (ctl0, 1)
  else if c.state ≠ 3 then (ctl0, 11)
  else (⟨1, 0, -1, (c.epoch + 1) % 16777216⟩, 0)
def ctlHold (c : Ctl) : Ctl × Int :=
  if ctlRight c = false then (ctl0, 1)
  else if c.state ≠ 3 then (ctl0, 11)
  else ({ c with state := 2, count := 1 }, 0)

/-! ### 4 ground: of each word of the heap whether it is free -/
def bump (l : List Extent) : List Extent :=
  match l.getLast? with
  | none => l
  | some x => l.dropLast ++ [⟨x.pos, x.size + 8⟩]
def extsGo (pos : Int) (prev : Bool) (acc : List Extent) : List Bool → List Extent
  | [] => acc
  | false :: g => extsGo (pos + 8) false acc g
  | true :: g => extsGo (pos + 8) true (bump (if prev then acc else acc ++ [⟨pos, 0⟩])) g
def exts (pos : Int) (g : List Bool) : List Extent := extsGo pos false [] g
/-- words from number i on, n of them, are b -/
def setBits : List Bool → Nat → Nat → Bool → List Bool
  | g, _, 0, _ => g
  | [], _, _, _ => []
  | _ :: g, 0, n + 1, b => b :: setBits g 0 n b
  | x :: g, i + 1, n + 1, b => x :: setBits g i (n + 1) b
/-- the first free extent that is great enough -/
def carve (pos : Int) (g : List Bool) (size : Int) : Option Int × List Bool :=
  if size < 1 ∨ size % 8 ≠ 0 then (none, g) else
  match (exts pos g).find? (fun x => decide (size ≤ x.size)) with
  | none => (none, g)
  | some x => (some x.pos, setBits g ((x.pos - pos) / 8).toNat (size / 8).toNat false)
def giveOk (pos : Int) (g : List Bool) (at_ size : Int) : Bool :=
  decide (1 ≤ size) && decide (size % 8 = 0) && decide (at_ % 8 = 0) && decide (pos ≤ at_) && decide (at_ < pos + 8 * g.length) &&
    decide (size ≤ pos + 8 * g.length - at_) && (((g.drop ((at_ - pos) / 8).toNat).take (size / 8).toNat).all fun b => !b)
def give (pos : Int) (g : List Bool) (at_ size : Int) : List Bool :=
  if giveOk pos g at_ size then setBits g ((at_ - pos) / 8).toNat (size / 8).toNat true else g

/-! ### 5 plan -/
def planRight (p : Plan) : Bool :=
  decide (1 ≤ p.scopes) && decide (p.scopes ≤ 8) && (decide (1 ≤ p.threads) && decide (p.threads ≤ 4)) &&
  (decide (0 ≤ p.immortal) && decide (p.immortal ≤ 2048)) && (decide (0 ≤ p.heap) && decide (p.heap ≤ 8192)) &&
  (decide (p.immortal % 8 = 0) && decide (p.heap % 8 = 0))
def planSize (p : Plan) : Int := 64 * p.scopes + p.immortal + p.heap
def planImm (p : Plan) : Extent := ⟨64 * p.scopes, p.immortal⟩
def planHeap (p : Plan) : Extent := ⟨64 * p.scopes + p.immortal, p.heap⟩
def planAt (part scope : Int) : Int := 64 * scope + 8 * part

/-! ### 6 ref -/
def refRight (r : Ref) : Bool :=
  decide (0 ≤ r.scope) && decide (r.scope < 8) && (decide (0 ≤ r.epoch) && decide (r.epoch ≤ 16777215)) &&
  (decide (8 ≤ r.pos) && decide (r.pos ≤ 65528) && decide (r.pos % 8 = 0))
def refWord (r : Ref) : Int := r.pos / 8 + 16777216 * r.scope + 4294967296 * r.epoch
def refPack (r : Ref) : Int × Int := if refRight r then (refWord r, 0) else (0, 1)
def refRead (h : Int) : Ref := ⟨h / 16777216 % 256, h / 4294967296, 8 * (h % 16777216)⟩
def refUnpack (h : Int) : Ref × Int :=
  if h < 1152921504606846976 ∧ refRight (refRead h) = true ∧ refWord (refRead h) = h then (refRead h, 0) else (⟨0, 0, 0⟩, 18)

/-! ### 7 head -/
def headWords (slots bytes : Int) : Int × Int :=
  if slots < 0 ∨ 6 < slots ∨ bytes < 0 ∨ 512 < bytes then (0, 1) else (2 + slots + (bytes + 7) / 8, 0)
def headRight (h : Head) : Bool :=
  decide (0 ≤ h.slots) && decide (h.slots ≤ 6) && (decide (2 + h.slots ≤ h.size) && decide (h.size ≤ 72)) &&
  (decide (0 ≤ h.tag) && decide (h.tag < 8)) && (decide (0 ≤ h.scope) && decide (h.scope < 8)) && (decide (0 ≤ h.epoch) && decide (h.epoch ≤ 16777215))
def headOne (h : Head) : Int :=
  h.size + 4294967296 * h.slots + 1099511627776 * h.tag + (if h.done then 281474976710656 else 0) + 11889503016258109440
def headTwo (h : Head) : Int := h.scope + 256 * h.epoch
def headRead (a b : Int) : Head :=
  ⟨a % 4294967296, a / 4294967296 % 256, a / 1099511627776 % 256, (a / 281474976710656 % 256 == 1), b % 256, b / 256 % 16777216⟩
def head0 : Head := ⟨0, 0, 0, false, 0, 0⟩
def headUnpack (a b : Int) : Head × Int :=
  if headRight (headRead a b) = true ∧ headOne (headRead a b) = a ∧ headTwo (headRead a b) = b then (headRead a b, 0) else (head0, 18)

/-! ### 9 chain -/
def area (l : List Entry) : Int := match l.getLast? with | none => 0 | some e => e.scope
/-- where a scope was entered first -/
def entered (l : List Entry) (s : Int) : Option Nat := l.findIdx? fun e => e.counted && decide (e.scope = s)
def reach (l : List Entry) (s : Int) : Bool := (l.any fun e => e.counted && decide (e.scope = s)) || decide (s = 0)
def parent (l : List Entry) (s : Int) : Int :=
  match entered l s with
  | none => -1
  | some i => area (l.take i)
def aboveIn (l : List Entry) (scope : Int) : Nat → Int → Bool
  | 0, _ => false
  | n + 1, pos => decide (parent l pos = scope) || aboveIn l scope n (parent l pos)
def above (l : List Entry) (scope below : Int) : Bool :=
  decide (scope = 0) || decide (scope = below) || aboveIn l scope 8 below

/-! ### 10 fin -/
def fopRight (o : FOp) : Bool :=
  if o.op = 0 then decide (0 ≤ o.a) && decide (o.a ≤ 99) && decide (o.b = 0)
  else if o.op = 1 then decide (0 ≤ o.a) && decide (o.a ≤ 5) && decide (o.b = 0)
  else if o.op = 2 then decide (0 ≤ o.a) && decide (o.a ≤ 5) && (decide (0 ≤ o.b) && decide (o.b ≤ 5))
  else if o.op = 3 then decide (0 ≤ o.a) && decide (o.a ≤ 5) && (decide (0 ≤ o.b) && decide (o.b ≤ 8))
  else decide (o.op = 4) && decide (o.a = 0) && decide (o.b = 0)
def finsRight (f : List (List FOp)) : Bool :=
  decide (f.length ≤ 8) && f.all fun l => decide (l.length ≤ 8) && l.all fopRight
def finOf (f : List (List FOp)) (tag : Int) : List FOp := if tag < 0 then [] else f.getD tag.toNat []
structure FStep where
  next : Int
  slots : List Int
  said : List Int
  held : Bool
deriving Inhabited
def inSlots (a : Int) (s : List Int) : Bool := decide (0 ≤ a) && decide (a < s.length)
def fopStep (o : FOp) (pos : Int) (s : List Int) : FStep :=
  if o.op = 0 then ⟨pos + 1, s, [o.a], false⟩
  else if o.op = 1 then ⟨pos + 1, if inSlots o.a s then s.set o.a.toNat 0 else s, [], false⟩
  else if o.op = 2 then ⟨pos + 1, if inSlots o.a s && inSlots o.b s then s.set o.a.toNat (s.getD o.b.toNat 0) else s, [], false⟩
  else if o.op = 3 then ⟨if inSlots o.a s && decide (s.getD o.a.toNat 0 = 0) then pos + 1 + o.b else pos + 1, s, [], false⟩
  else ⟨pos + 1, s, [], decide (o.op = 4)⟩
def finStep (ops : List FOp) (pos : Int) (s : List Int) : FStep :=
  if pos < 0 ∨ (ops.length : Int) ≤ pos then ⟨pos, s, [], false⟩ else fopStep (ops.getD pos.toNat default) pos s
/-- from an op on; each op goes on, so that as many rounds as there are ops left are enough -/
def finRunFrom (ops : List FOp) : Nat → Int → List Int → List Int → Bool → List Int × List Int × Bool
  | 0, _, s, said, held => (s, said, held)
  | n + 1, pos, s, said, held =>
    if pos < ops.length then
      let x := finStep ops pos s
      finRunFrom ops n x.next x.slots (said ++ x.said) (held || x.held)
    else (s, said, held)
def finRun (ops : List FOp) (s : List Int) : List Int × List Int × Bool := finRunFrom ops ops.length 0 s [] false

/-! ### 11, 12 model -/
structure Obj where
  scope : Int
  pos : Int
  tag : Int
  slots : List Int
  done : Bool
deriving DecidableEq, Inhabited, Repr
structure Mod where
  p : Plan
  f : List (List FOp)
  c : List Ctl
  x : List Extent
  g : List Bool
  o : List Obj
  gate : List Int
  bytes : List Int
  r : List (List Int)
  e : List (List Entry)
deriving Inhabited
def gpos (p : Plan) : Int := (planHeap p).pos
def idle0 : Ctl := ⟨0, 0, -1, 0⟩
def Mod.new (p : Plan) (f : List (List FOp)) : Mod :=
  { p, f
    c := (List.replicate p.scopes.toNat idle0).set 0 ⟨2, 1, -1, 0⟩
    x := (List.replicate p.scopes.toNat ⟨0, 0⟩).set 0 (planImm p)
    g := List.replicate (p.heap / 8).toNat true
    o := [], gate := List.replicate 8 0, bytes := List.replicate 8 0
    r := List.replicate 4 [0, 0, 0, 0], e := List.replicate 4 [] }
def Mod.ctl (m : Mod) (s : Int) : Ctl := m.c.getD s.toNat default
def Mod.ext (m : Mod) (s : Int) : Extent := m.x.getD s.toNat default
def Mod.regs (m : Mod) (t : Nat) : List Int := m.r.getD t []
def Mod.ents (m : Mod) (t : Nat) : List Entry := m.e.getD t []
def Mod.reg (m : Mod) (t : Nat) (k : Int) : Int := (m.regs t).getD k.toNat 0
def Mod.setReg (m : Mod) (t : Nat) (k v : Int) : Mod := { m with r := m.r.set t ((m.regs t).set k.toNat v) }
def Mod.setEnts (m : Mod) (t : Nat) (l : List Entry) : Mod := { m with e := m.e.set t l }
def Mod.setCtl (m : Mod) (s : Int) (c : Ctl) : Mod := { m with c := m.c.set s.toNat c }
def Mod.find (m : Mod) (r : Ref) : Option Nat :=
  m.o.findIdx? fun o => decide (o.scope = r.scope) && decide (o.pos = r.pos) && decide ((m.ctl r.scope).epoch = r.epoch)
/-- the place of the object that a number is, its scope, and the code -/
def Mod.check (m : Mod) (t : Nat) (h : Int) : Nat × Int × Int :=
  let u := refUnpack h
  if u.2 ≠ 0 ∨ m.p.scopes ≤ u.1.scope then (0, 0, 18)
  else if reach (m.ents t) u.1.scope = false then (0, 0, 20)
  else if u.1.epoch ≠ (m.ctl u.1.scope).epoch then (0, 0, 19)
  else match m.find u.1 with
    | none => (0, 0, 18)
    | some i => (i, u.1.scope, 0)
def Mod.value (m : Mod) (t : Nat) (v scope : Int) : Int :=
  if v = 0 then 0
  else
    let k := m.check t v
    if k.2.2 ≠ 0 then k.2.2
    else if above (m.ents t) k.2.1 scope = false then 22 else 0
def code (e : Int) : Answer := ⟨e, 0, []⟩

/-- scopes -/
def Mod.create (m : Mod) (size : Int) : Mod × Answer :=
  if size < 1 ∨ 8192 < size then (m, code 1)
  else
    let n := (size + 7) / 8 * 8
    match (m.c.drop 1).findIdx? fun c => decide (c.state = 0) with
    | none => (m, code 13)
    | some i =>
      match carve (gpos m.p) m.g n with
      | (none, _) => (m, code 14)
      | (some at_, g) =>
        ({ m with g, c := m.c.set (i + 1) { m.c.getD (i + 1) default with state := 1 }, x := m.x.set (i + 1) (Extent.mk at_ n) }, Answer.mk 0 (i + 1) [])
def Mod.destroy (m : Mod) (s : Int) : Mod × Int :=
  if s < 1 ∨ (m.c.length : Int) ≤ s then (m, 11)
  else if (m.ctl s).state = 0 then (m, 11)
  else if (m.ctl s).state ≠ 1 then (m, 12)
  else ({ m with
    g := give (gpos m.p) m.g (m.ext s).pos (m.ext s).size
    x := m.x.set s.toNat ⟨0, 0⟩
    c := m.c.set s.toNat ⟨0, 0, -1, ((m.ctl s).epoch + 1) % 16777216⟩ }, 0)

/-- all objects of a scope finalized, the last one first: the objects, what was said, how many, whether one held -/
def finAll (f : List (List FOp)) (s : Int) : List Obj → List Obj × List Int × Int × Bool
  | [] => ([], [], 0, false)
  | o :: os =>
    let t := finAll f s os
    if o.scope ≠ s ∨ o.done = true ∨ finOf f o.tag = [] then (o :: t.1, t.2)
    else
      let u := finRun (finOf f o.tag) o.slots
      ({ o with slots := u.1, done := true } :: t.1, t.2.1 ++ u.2.1, t.2.2.1 + 1, t.2.2.2 || u.2.2)
def Mod.exit (m : Mod) (t : Nat) : Mod × Answer :=
  let l := m.ents t
  let s := area l
  if 1 < (m.ctl s).count then
    (({ m with c := m.c.set s.toNat (ctlLeave (m.ctl s)).1 } : Mod).setEnts t l.dropLast, code 0)
  else
    let u := finAll m.f s m.o
    if u.2.2.2 then ({ m with o := u.1 }, ⟨25, u.2.2.1, u.2.1⟩)
    else
      (({ m with
          o := u.1.filter fun o => decide (o.scope ≠ s)
          gate := m.gate.set s.toNat 0
          bytes := m.bytes.set s.toNat 0
          c := m.c.set s.toNat (ctlOpen (ctlLeave (m.ctl s)).1).1 } : Mod).setEnts t l.dropLast, ⟨0, u.2.2.1, u.2.1⟩)
def Mod.alloc (m : Mod) (t : Nat) (c : Call) : Mod × Answer :=
  let w := headWords c.a c.b
  if w.2 ≠ 0 ∨ c.c < 0 ∨ 8 ≤ c.c then (m, code 1)
  else
    let s := area (m.ents t)
    let b := m.bytes.getD s.toNat 0
    if (m.ext s).size < b + 8 * w.1 then (m, code 17)
    else
      let at_ := (m.ext s).pos + b
      let h := (refPack ⟨s, (m.ctl s).epoch, at_⟩).1
      (({ m with o := m.o ++ [⟨s, at_, c.c, List.replicate c.a.toNat 0, false⟩], bytes := m.bytes.set s.toNat (b + 8 * w.1) } : Mod).setReg t c.r h, Answer.mk 0 (w64 h) [])
def Mod.slot (m : Mod) (t : Nat) (c : Call) : Mod × Answer :=
  let k := m.check t (m.reg t c.h)
  if k.2.2 ≠ 0 then (m, code k.2.2)
  else
    let o := m.o.getD k.1 default
    if c.b < 0 ∨ (o.slots.length : Int) ≤ c.b then (m, code 21)
    else if c.op = 8 then
      let v := o.slots.getD c.b.toNat 0
      (m.setReg t c.r v, ⟨0, w64 v, []⟩)
    else
      let v := m.reg t c.v
      let e := m.value t v k.2.1
      if e = 0 then ({ m with o := m.o.set k.1 { o with slots := o.slots.set c.b.toNat v } }, code 0) else (m, code e)
def Mod.door (m : Mod) (t : Nat) (c : Call) : Mod × Answer :=
  if c.a < 1 ∨ m.p.scopes ≤ c.a then (m, code 11)
  else if reach (m.ents t) c.a = false then (m, code 20)
  else if c.op = 10 then
    let v := m.gate.getD c.a.toNat 0
    (m.setReg t c.r v, ⟨0, w64 v, []⟩)
  else
    let v := m.reg t c.v
    let e := m.value t v c.a
    if e = 0 then ({ m with gate := m.gate.set c.a.toNat v }, code 0) else (m, code e)
def callRegs (c : Call) : Bool :=
  if c.op = 1 ∨ c.op = 7 ∨ c.op = 10 then decide (c.r < 4)
  else if c.op = 8 then decide (c.r < 4) && decide (c.h < 4)
  else if c.op = 9 then decide (c.h < 4) && decide (c.v < 4)
  else if c.op = 11 then decide (c.v < 4)
  else true
def Mod.goes (m : Mod) (t : Nat) (c : Call) : Mod × Answer :=
  let l := m.ents t
  if c.a < 0 ∨ m.p.scopes ≤ c.a ∨ (c.op ≠ 6 ∧ c.a = 0) then (m, code 11)
  else if c.op = 6 ∧ reach l c.a = false then (m, code 20)
  else if 6 ≤ l.length then (m, code 24)
  else if c.op = 6 then (m.setEnts t (l ++ [⟨c.a, false⟩]), code 0)
  else
    let d := ctlEnter (m.ctl c.a) (area l)
    if d.2 = 0 then ((m.setCtl c.a d.1).setEnts t (l ++ [⟨c.a, true⟩]), code 0) else (m, code d.2)
def Mod.leave (m : Mod) (t : Nat) : Mod × Answer :=
  match (m.ents t).getLast? with
  | none => (m, code 23)
  | some x => if x.counted then m.exit t else (m.setEnts t (m.ents t).dropLast, code 0)
/-- P12.3, of a thread that there is -/
def Mod.act (m : Mod) (t : Nat) (c : Call) : Mod × Answer :=
  if callRegs c = false then (m, code 1)
  else if c.op = 0 then (m, code 0)
  else if c.op = 1 then (m.setReg t c.r (u64 c.a), code 0)
  else if c.op = 2 then m.create c.a
  else if c.op = 3 then let d := m.destroy c.a; (d.1, code d.2)
  else if c.op = 4 ∨ c.op = 6 then m.goes t c
  else if c.op = 5 then m.leave t
  else if c.op = 7 then m.alloc t c
  else if c.op = 8 ∨ c.op = 9 then m.slot t c
  else if c.op = 10 ∨ c.op = 11 then m.door t c
  else (m, code 1)

/-! ### 13 to 18: micro-steps -/
structure All where
  p : Plan
  f : List (List FOp)
  a : List Int
  g : List Bool
deriving Inhabited
def All.is (x : All) (pos : Int) : Bool := decide (0 ≤ pos) && decide (pos < 8 * x.a.length) && decide (pos % 8 = 0)
def All.word (x : All) (pos : Int) : Int := if x.is pos then x.a.getD (pos / 8).toNat 0 else 0
def All.put (x : All) (pos v : Int) : All := if x.is pos then { x with a := x.a.set (pos / 8).toNat v } else x
def All.get (x : All) (part s : Int) : Int := x.word (planAt part s)
def All.set (x : All) (part s v : Int) : All := x.put (planAt part s) v
def All.ctl (x : All) (s : Int) : Ctl := (ctlUnpack (x.get 0 s)).1
def All.tell (x : All) (s : Int) (c : Ctl) : All := x.set 0 s (ctlPack c).1
def All.new (p : Plan) (f : List (List FOp)) : All :=
  let x : All := { p, f, a := List.replicate (planSize p / 8).toNat 0, g := List.replicate (p.heap / 8).toNat true }
  ((x.tell 0 ⟨2, 1, -1, 0⟩).set 1 0 (planImm p).pos).set 2 0 p.immortal
def All.headAt (x : All) (pos : Int) : Head × Int :=
  if x.is pos && x.is (min pos 1000000 + 8) then headUnpack (x.word pos) (x.word (pos + 8)) else (head0, 18)

def tell (r : Run) (cd n : Int) : Run := { r with done := true, point := true, answer := ⟨cd, n, r.said⟩ }
def checkH (p : Plan) (l : List Entry) (h : Int) : Ref × Int :=
  let u := refUnpack h
  if u.2 ≠ 0 ∨ p.scopes ≤ u.1.scope then (⟨0, 0, 0⟩, 18)
  else if reach l u.1.scope = false then (⟨0, 0, 0⟩, 20)
  else (u.1, 0)
def isScope (p : Plan) (c : Call) : Bool := decide (1 ≤ c.a) && decide (c.a < p.scopes)
/-- P13.3's table: the code and the Pc -/
def firstPc (p : Plan) (l : List Entry) (c : Call) (h v : Int) : Int × Int :=
  if callRegs c = false then (1, 0)
  else if c.op = 0 ∨ c.op = 1 then (0, 0)
  else if c.op = 2 then if c.a < 1 ∨ 8192 < c.a then (1, 0) else (0, 1)
  else if c.op = 3 then if isScope p c = false then (11, 0) else (0, 1)
  else if c.op = 4 ∨ c.op = 6 then
    if isScope p c = false ∧ (c.op = 4 ∨ c.a ≠ 0) then (11, 0)
    else if c.op = 6 ∧ reach l c.a = false then (20, 0)
    else if 6 ≤ l.length then (24, 0)
    else if c.op = 6 then (0, 0) else (0, 13)
  else if c.op = 5 then
    match l.getLast? with
    | none => (23, 0)
    | some e => if e.counted = false then (0, 0) else (0, 15)
  else if c.op = 7 then if (headWords c.a c.b).2 ≠ 0 ∨ c.c < 0 ∨ 8 ≤ c.c then (1, 0) else (0, 5)
  else if c.op = 8 ∨ c.op = 9 then
    let k := checkH p l h
    if k.2 ≠ 0 then (k.2, 0) else (0, 5)
  else if c.op = 10 ∨ c.op = 11 then
    if isScope p c = false then (11, 0)
    else if reach l c.a = false then (20, 0)
    else if c.op = 10 then (0, 11)
    else if v = 0 then (0, 12)
    else
      let k := checkH p l v
      if k.2 ≠ 0 then (k.2, 0) else (0, 7)
  else (1, 0)
def regOf (regs : List Int) (k : Int) : Int := if k < 4 then regs.getD k.toNat 0 else 0
def begin_ (p : Plan) (regs : List Int) (l : List Entry) (c : Call) : Run :=
  let k := firstPc p l c (regOf regs c.h) (regOf regs c.v)
  { call := c, pc := k.2, area := area l, hand := regOf regs c.h, val := regOf regs c.v, chain := l, word := 0, next := 0, pos := 0, top := 0,
    list := [], op := 0, said := [], n := 0, held := false, done := false, point := false, answer := ⟨k.1, 0, []⟩ }

/-- 14 -/
def makeIn (x : All) (r : Run) : Nat → Int → All × Run
  | 0, _ => (x, tell r 13 0)
  | n + 1, s =>
    if (x.ctl s).state ≠ 0 then makeIn x r n (s + 1)
    else
      let size := (r.call.a + 7) / 8 * 8
      match carve (gpos x.p) x.g size with
      | (none, _) => (x, tell r 14 0)
      | (some at_, g) =>
        ((((({ x with g }.tell s { x.ctl s with state := 1 }).set 1 s at_).set 2 s size).set 3 s 0).set 4 s 0, tell r 0 s)
def unmake (x : All) (r : Run) : All × Run :=
  let s := r.call.a
  let c := x.ctl s
  if c.state = 0 then (x, tell r 11 0)
  else if c.state ≠ 1 then (x, tell r 12 0)
  else (((({ x with g := give (gpos x.p) x.g (w64 (x.get 1 s)) (w64 (x.get 2 s)) }).tell s ⟨0, 0, -1, (c.epoch + 1) % 16777216⟩).set 1 s 0).set 2 s 0, tell r 0 0)
def make (x : All) (r : Run) : All × Run :=
  if r.call.op = 2 then makeIn x r (x.p.scopes - 1).toNat 1 else unmake x r
/-- 15 -/
def claim (x : All) (at_ by_ most base one two : Int) : All × Int × Bool :=
  if x.is at_ = false then (x, 0, false)
  else
    let w := x.word at_
    if most < w ∨ most - w < by_ then (x, w, false)
    else if 65536 < w ∨ base < 0 ∨ 65536 < base then (x, 0, false)
    else if x.is (base + w) = false ∨ x.is (base + w + 8) = false then (x, 0, false)
    else (((x.put at_ (w + by_)).put (base + w) one).put (base + w + 8) two, w, true)
def takeStep (x : All) (r : Run) : All × Run :=
  let s := r.area
  if r.pc = 5 then (x, { r with next := (x.ctl s).epoch, pc := 2 })
  else if r.pc = 2 then (x, { r with pos := w64 (x.get 1 s), pc := 3 })
  else if r.pc = 3 then (x, { r with word := x.get 2 s, pc := 4 })
  else
    let n := (headWords r.call.a r.call.b).1
    let h : Head := ⟨n, r.call.a, r.call.c, false, s, w64 r.next⟩
    let k := claim x (planAt 3 s) (8 * n) r.word r.pos (if headRight h then headOne h else 0) (if headRight h then headTwo h else 0)
    if k.2.2 = false then (k.1, tell r 17 0)
    else (k.1, tell r 0 (w64 (refPack ⟨s, w64 r.next, r.pos + k.2.1⟩).1))
/-- 16 -/
def stale (x : All) (r : Ref) : Bool := decide ((x.ctl r.scope).epoch ≠ r.epoch)
def headIs (x : All) (r : Ref) : Head × Bool :=
  let h := x.headAt r.pos
  (h.1, decide (h.2 = 0) && decide (h.1.scope = r.scope) && decide (h.1.epoch = r.epoch))
def slotsStep (x : All) (r : Run) : All × Run :=
  let h := (refUnpack r.hand).1
  let v := (refUnpack r.val).1
  if r.pc = 5 then if stale x h then (x, tell r 19 0) else (x, { r with pc := 6 })
  else if r.pc = 6 then
    let d := headIs x h
    if d.2 = false then (x, tell r 18 0)
    else if r.call.b < 0 ∨ d.1.slots ≤ r.call.b then (x, tell r 21 0)
    else
      let r := { r with pos := h.pos + 16 + 8 * r.call.b }
      if r.call.op = 8 then (x, { r with pc := 9 })
      else if r.val = 0 then (x, { r with pc := 10 })
      else
        let k := checkH x.p r.chain r.val
        if k.2 ≠ 0 then (x, tell r k.2 0) else (x, { r with pc := 7 })
  else if r.pc = 7 then if stale x v then (x, tell r 19 0) else (x, { r with pc := 8 })
  else if r.pc = 8 then
    let d := headIs x v
    if d.2 = false then (x, tell r 18 0)
    else if above r.chain v.scope (if r.call.op = 11 then r.call.a else h.scope) = false then (x, tell r 22 0)
    else (x, { r with pc := if r.call.op = 11 then 12 else 10 })
  else if r.pc = 9 then (x, tell r 0 (w64 (x.word r.pos)))
  else if r.pc = 10 then (x.put r.pos r.val, tell r 0 0)
  else if r.pc = 11 then (x, tell r 0 (w64 (x.get 4 r.call.a)))
  else (x.set 4 r.call.a r.val, tell r 0 0)
/-- 17 -/
def enterStep (x : All) (r : Run) : All × Run :=
  let r := { r with point := false }
  if r.pc = 14 then
    if x.is (planAt 0 r.call.a) && decide (x.get 0 r.call.a = r.word) then (x.set 0 r.call.a r.next, tell r 0 0)
    else (x, { r with word := 0, next := 0, pc := 13 })
  else
    let w := x.get 0 r.call.a
    let d := ctlEnter (ctlUnpack w).1 r.area
    if d.2 = 10 then (x, r)
    else if d.2 ≠ 0 then (x, tell r d.2 0)
    else (x, { r with word := w, next := (ctlPack d.1).1, pc := 14 })
/-- 18 -/
def further (r : Run) : Run := { r with pc := if r.list ≠ [] then 20 else if r.held then 22 else 23 }
def walkOn (r : Run) : Run := if r.pos < r.top then { r with pc := 19 } else further r
def zeroOn (r : Run) : Run := { r with pc := if r.pos < r.top then 24 else 25 }
def putAll (x : All) (at_ : Int) : List Int → All
  | [] => x
  | v :: l => putAll (x.put at_ v) (at_ + 8) l
def slotsAt (x : All) (at_ : Int) (n : Nat) : List Int := (List.range n).map fun i : Nat => x.word (at_ + 16 + 8 * (i : Int))
def markAt (x : All) (at_ : Int) : All :=
  let h := x.headAt at_
  if h.2 ≠ 0 then x else x.put at_ (headOne { h.1 with done := true })
def leaveStep (x : All) (r : Run) : All × Run :=
  let s := r.area
  let next := (ctlUnpack r.next).1
  if r.pc = 15 then
    (x, { r with word := x.get 0 s, next := (ctlPack (ctlLeave (x.ctl s)).1).1, pc := 16 })
  else if r.pc = 16 then
    if x.is (planAt 0 s) && decide (x.get 0 s = r.word) then
      let y := x.set 0 s r.next
      if next.state = 3 then (y, { r with pc := 17 }) else (y, tell r 0 0)
    else (x, { r with word := 0, next := 0, pc := 15 })
  else if r.pc = 17 then (x, { r with word := x.get 1 s, pos := w64 (x.get 1 s), pc := 18 })
  else if r.pc = 18 then (x, walkOn { r with top := w64 (r.pos + w64 (x.get 3 s)) })
  else if r.pc = 19 then
    let h := (x.headAt r.pos).1
    let r := if h.done = false ∧ finOf x.f h.tag ≠ [] then { r with list := r.list ++ [r.pos] } else r
    (x, walkOn { r with pos := w64 (r.pos + 8 * h.size) })
  else if r.pc = 20 then
    let o := r.list.getLastD 0
    let h := (x.headAt o).1
    let ops := finOf x.f h.tag
    let u := finStep ops r.op (slotsAt x o h.slots.toNat)
    let y := putAll x (o + 16) u.slots
    let r := { r with op := u.next, said := r.said ++ u.said, held := r.held || u.held }
    (y, if (ops.length : Int) ≤ u.next then { r with pc := 21 } else r)
  else if r.pc = 21 then
    (markAt x (r.list.getLastD 0), further { r with list := r.list.dropLast, n := w64 (r.n + 1), op := 0 })
  else if r.pc = 22 then (x.tell s (ctlHold next).1, tell r 25 r.n)
  else if r.pc = 23 then (x.set 4 s 0, zeroOn { r with pos := w64 r.word })
  else if r.pc = 24 then (x.put r.pos 0, zeroOn { r with pos := w64 (r.pos + 8) })
  else if r.pc = 25 then (x.set 3 s 0, { r with pc := 26 })
  else (x.tell s (ctlOpen next).1, tell r 0 r.n)

/-! ### 19 world -/
structure Th where
  l : List Call
  regs : List Int
  c : List Entry
  r : Run
  at_ : Int
deriving Inhabited
structure Wld where
  x : All
  t : List Th
  ops : List Op
  steps : Int
deriving Inhabited
def Wld.new (p : Plan) (f : List (List FOp)) (progs : List (List Call)) : Wld :=
  { x := All.new p f
    t := (List.range p.threads.toNat).map fun i => { l := progs.getD i [], regs := [0, 0, 0, 0], c := [], r := default, at_ := -1 }
    ops := [], steps := 0 }
def Th.ended (t : Th) : Bool := decide (t.at_ < 0) && t.l.isEmpty
def Wld.ended (w : Wld) (i : Nat) : Bool := (w.t.getD i default).ended
def Wld.live (w : Wld) : List Nat := (List.range w.t.length).filter fun i => !w.ended i
def one (x : All) (r : Run) : All × Run :=
  if r.pc = 0 then (x, tell r r.answer.code 0)
  else if r.call.op = 2 ∨ r.call.op = 3 then make x r
  else if r.call.op = 7 then takeStep x r
  else if r.call.op = 4 then enterStep x r
  else if r.call.op = 5 then leaveStep x r
  else slotsStep x r
def finish (t : Th) : Th :=
  let c := t.r.call
  if t.r.answer.code ≠ 0 then t
  else if c.op = 1 then { t with regs := t.regs.set c.r.toNat (u64 c.a) }
  else if c.op = 7 ∨ c.op = 8 ∨ c.op = 10 then { t with regs := t.regs.set c.r.toNat (u64 t.r.answer.n) }
  else if c.op = 4 then { t with c := t.c ++ [⟨c.a, true⟩] }
  else if c.op = 6 then { t with c := t.c ++ [⟨c.a, false⟩] }
  else if c.op = 5 then { t with c := t.c.dropLast }
  else t
/-- the thread whose next call has begun, and the row of calls -/
def Wld.begun (w : Wld) (i : Nat) : Th × List Op :=
  let t := w.t.getD i default
  if t.at_ < 0 then
    let c := t.l.headD default
    ({ t with r := begin_ w.x.p t.regs t.c c, at_ := w.ops.length, l := t.l.tail },
      w.ops ++ [⟨i, c, w.steps, -1, -1, ⟨0, 0, []⟩⟩])
  else (t, w.ops)
/-- P19.2, of a thread that has not ended -/
def Wld.step (w : Wld) (i : Nat) : Wld :=
  let b := w.begun i
  let k := one w.x b.1.r
  let t := { b.1 with r := k.2 }
  if k.2.done then
    { x := k.1
      t := w.t.set i { finish t with at_ := -1 }
      ops := b.2.set t.at_.toNat { b.2.getD t.at_.toNat default with point := w.steps, stop := w.steps, answer := k.2.answer }
      steps := w.steps + 1 }
  else { x := k.1, t := w.t.set i t, ops := b.2, steps := w.steps + 1 }

/-- the places of those that took place, by their Points -/
def insertBy (key : Nat → Int) (i : Nat) : List Nat → List Nat
  | [] => [i]
  | j :: l => if key i < key j then i :: j :: l else j :: insertBy key i l
def points (l : List Op) : List Nat :=
  (List.range l.length).foldl (fun acc i => if (l.getD i default).point < 0 then acc else insertBy (fun j => (l.getD j default).point) i acc) []
def legalFrom (l : List Op) : List Nat → Mod → Bool
  | [], _ => true
  | i :: is, m =>
    let o := l.getD i default
    let k := m.act o.thread.toNat o.call
    decide (k.2 = o.answer) && legalFrom l is k.1
end Pen
