-- Written by scripts/standin.py (the kit's print with stand-ins) for this claim; what it printed here lies in PAllLess, Stands, Awake17.
import Derived.Test.YtianblmceohmnaaPAllx0
import Derived.Test.YtianblmceohmnaaPAllx9
import Derived.Test.YtianblmceohmnaaPAllLess
import Derived.Test.YtianblmceohmnaaStands
import Derived.Test.YtianblmceohmnaaAwake17
